/-
  The contract of the reference's Accept: the error of Check, the greater top, and the bits moved up with the new one set.
  Conditions: a window of 1 to 1024 numbers whose words lie in a block of their own and have no bit beyond the size.
-/
import Derived.Test.YtbepkfdfabgigaaWinD
namespace Go.Proofs.Ytbepkfdfabgigaa
open Go.RowKit
set_option linter.unusedVariables false
def RAccPost (w : World) (S T n : Nat) (W : Nat → Nat) (m : Nat) (e : Ending) (w' : World) : Prop :=
  ∃ g c : Nat, ∃ W' : Nat → Nat, e = .returned (.tuple #[.agg #[.int .i64 (S : Nat), .int .u64 (accT S T (bitW W) m : Nat), .slice (some ⟨g, 0, none⟩) n c], .int .i64 (chk S T (bitW W) m : Nat)]) ∧
    Row w' g n (fun i => .int .u64 (W' i : Nat)) ∧ (∀ i, W' i < 18446744073709551616) ∧ (∀ k, k < 64 * n → bitW W' k = accB S T (bitW W) m k) ∧ Below w.heap.size w w'
/-- What stands behind the fourth statement: the new window in block h, its words in block g'. -/
def RCut (wA : World) (S P n : Nat) (p : Value) (wx : World) : Prop :=
  ∃ h g' : Nat, ∃ cs : Array Value, p = .pointer (some ⟨h, 0, none⟩) ∧ wA.heap.size ≤ h ∧ wA.heap.size ≤ g' ∧ Blk wx h 30 #[.int .i64 (S : Nat), .int .u64 (P : Nat), .slice (some ⟨g', 0, none⟩) n n] ∧
    Blk wx g' 22 cs ∧ cs.size = n ∧ (∀ k, k < n → cs[k]? = some (.int .u64 (0 : Nat))) ∧ Below wA.heap.size wA wx
/-- The loop's relation: k bits have been moved. -/
def RLoop (w : World) (S T P n g c h g' d : Nat) (W : Nat → Nat) (i : Value) (wr : World) : Prop :=
  ∃ k : Nat, k ≤ S ∧ i = .int .i64 k ∧ Blk wr h 30 #[.int .i64 (S : Nat), .int .u64 (P : Nat), .slice (some ⟨g', 0, none⟩) n n] ∧ ∃ cs : Array Value, ∃ W' : Nat → Nat, Blk wr g' 22 cs ∧ cs.size = n ∧ (∀ j, j < n → cs[j]? = some (.int .u64 (W' j : Nat))) ∧
    (∀ i, W' i < 18446744073709551616) ∧ (∀ j, j < 64 * n → bitW W' j = (decide (j < S) && (decide (d ≤ j) && (decide (j - d < k) && bitW W (j - d))))) ∧
    Blk wr w.heap.size 30 #[.int .i64 (S : Nat), .int .u64 (T : Nat), .slice (some ⟨g, 0, none⟩) n c] ∧ Blk wr (w.heap.size + 1) 30 #[.int .i64 0, .int .u64 0, .slice none 0 0] ∧ Row wr g n (fun i => .int .u64 (W i : Nat)) ∧ Below w.heap.size w wr
theorem rbit_same {S d k j : Nat} {B : Nat → Bool} (h : j < S → d ≤ j → j - d = k → B (j - d) = false) :
    (decide (j < S) && (decide (d ≤ j) && (decide (j - d < k) && B (j - d)))) = (decide (j < S) && (decide (d ≤ j) && (decide (j - d < k + 1) && B (j - d)))) := by
  by_cases h1 : j < S
  · by_cases h2 : d ≤ j
    · by_cases h3 : j - d = k
      · rw [h h1 h2 h3]; simp
      · have : decide (j - d < k) = decide (j - d < k + 1) := by rw [Bool.eq_iff_iff]; simp only [decide_eq_true_eq]; omega
        rw [this]
    · simp [h2]
  · simp [h1]
theorem rbit_set {S d k j a : Nat} {B : Nat → Bool} (ha : a = d + k) (haS : a < S) (hk : k < S) (hB : B k = true) :
    ((decide (j < S) && (decide (d ≤ j) && (decide (j - d < k) && B (j - d)))) || decide (j = a)) = (decide (j < S) && (decide (d ≤ j) && (decide (j - d < k + 1) && B (j - d)))) := by
  by_cases h1 : j = a
  · subst h1
    have e : j - d = k := by omega
    have e2 : d ≤ j := by omega
    rw [e, hB]
    simp [haS, e2]
  · rw [rbit_same (fun _ h2 h3 => absurd h3 (by omega))]
    simp [h1]
theorem zeros_get (n : Nat) : ∀ k, k < n → (madeCells #[Value.int IntKind.u64 0] n)[k]? = some (.int .u64 (0 : Nat)) := by intro k hk; simp [madeCells, hk, Nat.mod_one]
theorem rcut_a (w1 : World) (S P n : Nat) : RCut w1 S P n (.pointer (some ⟨w1.heap.size + 1, 0, none⟩))
    ((w1.alloc (Obj.cells (madeCells #[Value.int IntKind.u64 0] n) 22)).alloc (Obj.cells #[.int .i64 (S : Nat), .int .u64 (P : Nat), .slice (some ⟨w1.heap.size, 0, none⟩) n n] 30)).drew := by
  refine ⟨_, w1.heap.size, madeCells #[Value.int IntKind.u64 0] n, rfl, by omega, Nat.le_refl _, ?_, ?_, size_madeCells _ _, zeros_get n, (((Below.refl _ _).alloc (Nat.le_refl _) _).alloc (by simp) _).drew⟩
  · have := heap_alloc_new (w1.alloc (Obj.cells (madeCells #[Value.int IntKind.u64 0] n) 22)) (Obj.cells #[.int .i64 (S : Nat), .int .u64 (P : Nat), .slice (some ⟨w1.heap.size, 0, none⟩) n n] 30)
    rw [World.size_alloc] at this
    exact this
  · exact Blk.alloc (heap_alloc_new w1 _) _
theorem rcut_b (w1 : World) (S P n : Nat) : RCut w1 S P n (.pointer (some ⟨w1.heap.size, 0, none⟩))
    ((w1.alloc (Obj.cells #[.int .i64 (S : Nat), .int .u64 (P : Nat), .slice (some ⟨w1.heap.size + 1, 0, none⟩) n n] 30)).alloc (Obj.cells (madeCells #[Value.int IntKind.u64 0] n) 22)).drew := by
  refine ⟨_, w1.heap.size + 1, madeCells #[Value.int IntKind.u64 0] n, rfl, Nat.le_refl _, by omega, ?_, ?_, size_madeCells _ _, zeros_get n, (((Below.refl _ _).alloc (Nat.le_refl _) _).alloc (by simp) _).drew⟩
  · exact Blk.alloc (heap_alloc_new w1 _) _
  · have := heap_alloc_new (w1.alloc (Obj.cells #[.int .i64 (S : Nat), .int .u64 (P : Nat), .slice (some ⟨w1.heap.size + 1, 0, none⟩) n n] 30)) (Obj.cells (madeCells #[Value.int IntKind.u64 0] n) 22)
    rw [World.size_alloc] at this
    exact this
set_option maxRecDepth 100000 in
set_option maxHeartbeats 2000000 in
theorem raccept_any (S T g n c : Nat) (W : Nat → Nat) (m : Nat) (w : World) (hS : 1 ≤ S) (hS1 : S ≤ 1024) (hn : n = (S + 63) / 64) (hT : T < 9223372036854775808) (hm : m < 9223372036854775808)
    (hr : Row w g n fun i => .int .u64 (W i : Nat)) (hW : ∀ i, W i < 18446744073709551616) (hB : ∀ k, S ≤ k → k < 64 * n → bitW W k = false) :
    Calls Try.prog 21 #[.agg #[.int .i64 (S : Nat), .int .u64 (T : Nat), .slice (some ⟨g, 0, none⟩) n c], .int .u64 (m : Nat)] w (RAccPost w S T n W m) := by
  have hg := hr.lt (by omega)
  have hn1 : n ≤ 1000 := by omega
  have hn0 : 1 ≤ n := by omega
  have hSn : S ≤ 64 * n := by omega
  have hmk := fun W' => run_make_row' (P := Try.prog) 25 22 (.int .u64 0) 8 Try.underlying25 u64_info rfl .i64 .i64 n (by omega) (by omega) W'
  have HR := Lib.hid hr
  have HW := Lib.hid hW
  have HB := Lib.hid hB
  have Hn := Lib.hid hn
  clear hr hW hB hn
  go_enter Try.func21, Try.ntmps21
  go_wp2_with fail
  have hb0 : Below w.heap.size w ((w.alloc (Obj.cells #[.int .i64 (S : Nat), .int .u64 (T : Nat), .slice (some ⟨g, 0, none⟩) n c] 30)).alloc (Obj.cells #[.int .i64 0, .int .u64 0, .slice none 0 0] 30)) := ((Below.refl _ _).alloc (Nat.le_refl _) _).alloc (by simp) _
  have hk0 : Blk ((w.alloc (Obj.cells #[.int .i64 (S : Nat), .int .u64 (T : Nat), .slice (some ⟨g, 0, none⟩) n c] 30)).alloc (Obj.cells #[.int .i64 0, .int .u64 0, .slice none 0 0] 30)) w.heap.size 30 #[.int .i64 (S : Nat), .int .u64 (T : Nat), .slice (some ⟨g, 0, none⟩) n c] := Blk.alloc (heap_alloc_new w _) _
  have hk1 : Blk ((w.alloc (Obj.cells #[.int .i64 (S : Nat), .int .u64 (T : Nat), .slice (some ⟨g, 0, none⟩) n c] 30)).alloc (Obj.cells #[.int .i64 0, .int .u64 0, .slice none 0 0] 30)) (w.heap.size + 1) 30 #[.int .i64 0, .int .u64 0, .slice none 0 0] := by
    have := heap_alloc_new (w.alloc (Obj.cells #[.int .i64 (S : Nat), .int .u64 (T : Nat), .slice (some ⟨g, 0, none⟩) n c] 30)) (Obj.cells #[.int .i64 0, .int .u64 0, .slice none 0 0] 30)
    simpa [Blk] using this
  have hr0 := (HR.out.alloc (Obj.cells #[.int .i64 (S : Nat), .int .u64 (T : Nat), .slice (some ⟨g, 0, none⟩) n c] 30)).alloc (Obj.cells #[.int .i64 0, .int .u64 0, .slice none 0 0] 30)
  have hz0 : ((w.alloc (Obj.cells #[.int .i64 (S : Nat), .int .u64 (T : Nat), .slice (some ⟨g, 0, none⟩) n c] 30)).alloc (Obj.cells #[.int .i64 0, .int .u64 0, .slice none 0 0] 30)).heap.size = w.heap.size + 2 := by simp
  generalize (w.alloc (Obj.cells #[.int .i64 (S : Nat), .int .u64 (T : Nat), .slice (some ⟨g, 0, none⟩) n c] 30)).alloc (Obj.cells #[.int .i64 0, .int .u64 0, .slice none 0 0] 30) = wA at *
  have HB0 := Lib.hid hb0
  have hzA : w.heap.size < wA.heap.size := by omega
  have HZ := Lib.hid hz0
  refine (rcheck_any S T g n c W m _ hS hS1 hSn hn1 (by omega) (by omega) hr0 HW.out).mono ?_
  rintro e w1 ⟨rfl, hb1⟩
  have hz1 : w.heap.size + 2 ≤ w1.heap.size := by have := hb1.size; omega
  have hr1 := hr0.below' hb1
  have hk2 := hk0.below hb1 hk0.lt
  have hk4 := hk1.below hb1 hk1.lt
  have hbw := hb0.trans (hb1.mono (by omega))
  have c0 : w1.cell? ⟨w.heap.size, 0, none⟩ = some (.int .i64 (S : Nat)) := hk2.cell 0
  have c1 : w1.cell? ⟨w.heap.size, 1, none⟩ = some (.int .u64 (T : Nat)) := hk2.cell 1
  have c2 : w1.cell? ⟨w.heap.size, 2, none⟩ = some (.slice (some ⟨g, 0, none⟩) n c) := hk2.cell 2
  have y40 : w1.cell? ⟨w.heap.size + 1, 0, none⟩ = some (.int .i64 0) := hk4.cell 0
  have y41 : w1.cell? ⟨w.heap.size + 1, 1, none⟩ = some (.int .u64 0) := hk4.cell 1
  have y42 : w1.cell? ⟨w.heap.size + 1, 2, none⟩ = some (.slice none 0 0) := hk4.cell 2
  have z40 := hk4.free 0
  have z41 := hk4.free 1
  have z42 := hk4.free 2
  have HR1 := Lib.hid hr1
  have HK2 := Lib.hid hk2
  have HK4 := Lib.hid hk4
  have HBw := Lib.hid hbw
  clear hb0 hk0 hk1 hr0 hz0 hb1 hr1 hk2 hk4 hbw
  by_cases h0 : chk S T (bitW W) m = 0
  · have q0 : (((chk S T (bitW W) m : Nat) : Int) != 0) = false := by rw [h0]; rfl
    obtain ⟨hm0, hcase⟩ := chk_zero h0
    have He : Hid (accT S T (bitW W) m = max T m ∧ ∀ k, accB S T (bitW W) m k = (decide (k < S) && ((decide (max T m - T ≤ k) && bitW W (k - (max T m - T))) || decide (k = max T m - m)))) := Lib.hid ⟨by unfold accT; rw [if_pos h0], fun k => by unfold accB; rw [if_pos h0]⟩
    generalize hE : chk S T (bitW W) m = E at *
    have HE := Lib.hid hE
    have H0 := Lib.hid h0
    clear hE h0
    have Hcase := Lib.hid hcase
    clear hcase
    obtain ⟨P, hP⟩ : ∃ P, P = max T m := ⟨_, rfl⟩
    have hPi : (if T < m then (m : Int) else (T : Int)) = (P : Nat) := by split <;> omega
    have HP := Lib.hid hP
    have hP1 : T ≤ P := by omega
    have hP2 : m ≤ P := by omega
    have hP3 : P < 9223372036854775808 := by omega
    clear hP
    have ne0 := World.new_ne w1 _ c0
    have ne1 := World.new_ne w1 _ c1
    have ne2 := World.new_ne w1 _ c2
    go_upto_region 4 with (fail)
    go_cut [7] (RCut w1 S P n)
    case first =>
      go_region_held3 (fun w' => w'.cell? ⟨w.heap.size, 0, none⟩ = some (.int .i64 (S : Nat)) ∧ w'.cell? ⟨w.heap.size, 1, none⟩ = some (.int .u64 (T : Nat)) ∧ w'.cell? ⟨w.heap.size, 2, none⟩ = some (.slice (some ⟨g, 0, none⟩) n c)) (go_keep)
        (first | (fail))
      all_goals (go_wp2_with fail; go_meet; first | exact rcut_a w1 S P n | exact rcut_b w1 S P n)
    case rest =>
      obtain ⟨h, g', cs, rfl, hh, hg', jh, jg, hcs, hget, hbx⟩ := hcut
      have ngh : g' ≠ h := by
        rintro rfl
        unfold Blk at jh jg
        rw [jh] at jg
        injection jg with jg
        injection jg with _ jg
        exact absurd jg (by decide)
      have hrx := HR1.out.below' hbx
      have k2 := HK2.out.below hbx (by omega)
      have k4 := HK4.out.below hbx (by omega)
      have hbw := HBw.out.trans (hbx.mono (by omega))
      have HRx := Lib.hid hrx
      have Kh := Lib.hid jh
      have Kg := Lib.hid jg
      have K2 := Lib.hid k2
      have K4 := Lib.hid k4
      have Kb := Lib.hid hbw
      have Hget := Lib.hid hget
      have Hcs := Lib.hid hcs
      clear hrx jh jg k2 k4 hbw hget hcs hbx c0 c1 c2 y40 y41 y42 z40 z41 z42 ne0 ne1 ne2 hmk
      obtain ⟨d, hd⟩ : ∃ d, d = P - T := ⟨_, rfl⟩
      have hdi : ((P : Int) - (T : Int)) = (d : Nat) := by omega
      have hd64 : d < 9223372036854775808 := by omega
      have Hd := Lib.hid hd
      clear hd
      go_wp2_with fail
      go_loopw [8] (RLoop w S T P n g c h g' d W) (fun i _ => S - (intOf i).toNat)
      case atStart => exact ⟨0, by omega, rfl, Kh.out, cs, fun _ => 0, Kg.out, Hcs.out, Hget.out, fun _ => by show 0 < 18446744073709551616; omega, fun j hj => by simp [bitW], K2.out, K4.out, HRx.out, Kb.out⟩
      case round =>
        obtain ⟨k, hk, rfl, jh, cs1, W1, jg, hcs1, hget1, hW1, hbit1, j2, j4, jr, jb⟩ := hrel
        have xh0 : wr.cell? ⟨h, 0, none⟩ = some (.int .i64 (S : Nat)) := jh.cell 0
        have xh1 : wr.cell? ⟨h, 1, none⟩ = some (.int .u64 (P : Nat)) := jh.cell 1
        have xh2 : wr.cell? ⟨h, 2, none⟩ = some (.slice (some ⟨g', 0, none⟩) n n) := jh.cell 2
        have x20 : wr.cell? ⟨w.heap.size, 0, none⟩ = some (.int .i64 (S : Nat)) := j2.cell 0
        have x21 : wr.cell? ⟨w.heap.size, 1, none⟩ = some (.int .u64 (T : Nat)) := j2.cell 1
        have x22 : wr.cell? ⟨w.heap.size, 2, none⟩ = some (.slice (some ⟨g, 0, none⟩) n c) := j2.cell 2
        have Jh := Lib.hid jh
        have Jg := Lib.hid jg
        have J2 := Lib.hid j2
        have J4 := Lib.hid j4
        have Jr := Lib.hid jr
        have Jb := Lib.hid jb
        have Hcs1 := Lib.hid hcs1
        have Hget1 := Lib.hid hget1
        have HW1 := Lib.hid hW1
        have Hbit1 := Lib.hid hbit1
        have Hlt := Lib.hid (And.intro jh.lt (And.intro jg.lt (And.intro j2.lt j4.lt)))
        clear jh jg j2 j4 jr jb hcs1 hget1 hW1 hbit1
        by_cases hkS : k < S
        · have q1 : decide ((k : Int) < S) = true := decide_eq_true (by omega)
          go_wp2_with fail
          refine (bit_any S T g n c W k _ hn1 (by omega) (by omega) Jr.out HW.out).mono ?_
          rintro e w2 ⟨rfl, hb2⟩
          obtain ⟨l1, l2, l3, l4⟩ := Hlt.out
          have jh := Jh.out.below hb2 l1
          have jg := Jg.out.below hb2 l2
          have j2 := J2.out.below hb2 l3
          have j4 := J4.out.below hb2 l4
          have jr := Jr.out.below' hb2
          have jb := Jb.out.trans (hb2.mono Jb.out.size)
          clear xh0 xh1 xh2 x20 x21 x22 hb2
          have xh2 : w2.cell? ⟨h, 2, none⟩ = some (.slice (some ⟨g', 0, none⟩) n n) := jh.cell 2
          have x20 : w2.cell? ⟨w.heap.size, 0, none⟩ = some (.int .i64 (S : Nat)) := j2.cell 0
          have Jh2 := Lib.hid jh
          have Jg2 := Lib.hid jg
          have J22 := Lib.hid j2
          have J42 := Lib.hid j4
          have Jr2 := Lib.hid jr
          have Jb2 := Lib.hid jb
          obtain ⟨a, ha⟩ : ∃ a, a = d + k := ⟨_, rfl⟩
          have hai : ((d : Int) + (k : Int)) = (a : Nat) := by omega
          have ha64 : a < 18446744073709551616 := by omega
          by_cases hbk : bitW W k = true
          · by_cases haS : a < S
            · have q2 : decide ((a : Int) < S) = true := decide_eq_true (by omega)
              have han : a / 64 < n := by omega
              have xg : w2.cell? ⟨g', a / 64, none⟩ = some (.int .u64 (W1 (a / 64) : Nat)) := (jg.cell _).trans (Hget1.out _ han)
              have zg := jg.free (a / 64)
              have Ha := Lib.hid ha
              rw [hbk]
              clear jh jg j2 j4 jr jb ha
              go_wp2_with fail
              rw [or_nat _ _ (HW1.out _) (Nat.mod_lt _ (by omega))]
              refine ⟨⟨k + 1, by omega, by go_num, Jh2.out.far (p := ⟨g', a / 64, none⟩) (Ne.symm ngh) _, _, putW W1 (a / 64) (W1 (a / 64) ||| 2 ^ (a % 64)), Jg2.out.put (a / 64) _, by rw [Array.size_setIfInBounds]; exact Hcs1.out, get_put (by rw [Hcs1.out]; exact Nat.le_refl _) Hget1.out, putW_lt HW1.out (or_lt (HW1.out _) (two_pow_lt (Nat.mod_lt _ (by omega)))), fun j hj => ?_, J22.out.far (p := ⟨g', a / 64, none⟩) (by show w.heap.size ≠ g'; omega) _, J42.out.far (p := ⟨g', a / 64, none⟩) (by show w.heap.size + 1 ≠ g'; omega) _, ?_, Jb2.out.setCell (p := ⟨g', a / 64, none⟩) (by show w.heap.size ≤ g'; omega) _⟩, by show S - ((k : Int) + 1).toNat < S - ((k : Int)).toNat; omega⟩
              · rw [bitW_set, Hbit1.out j hj]
                exact rbit_set Ha.out haS (by omega) (by assumption)
              · intro i hi
                rw [World.cell?_setCell_other _ _ _ _ (by simp)]
                exact Jr2.out i hi
            · have q2 : decide ((a : Int) < S) = false := decide_eq_false (by omega)
              have Ha := Lib.hid ha
              rw [hbk]
              clear jh jg j2 j4 jr jb ha
              go_wp2_with fail
              refine ⟨⟨k + 1, by omega, by go_num, Jh2.out, cs1, W1, Jg2.out, Hcs1.out, Hget1.out, HW1.out, fun j hj => ?_, J22.out, J42.out, Jr2.out, Jb2.out⟩, by show S - ((k : Int) + 1).toNat < S - ((k : Int)).toNat; omega⟩
              rw [Hbit1.out j hj]
              exact rbit_same (fun h1 h2 h3 => absurd h1 (by have := Ha.out; omega))
          · have hbk' : bitW W k = false := by simpa using hbk
            have Hbk := Lib.hid hbk'
            rw [hbk']
            clear jh jg j2 j4 jr jb ha hbk hbk'
            go_wp2_with fail
            refine ⟨⟨k + 1, by omega, by go_num, Jh2.out, cs1, W1, Jg2.out, Hcs1.out, Hget1.out, HW1.out, fun j hj => ?_, J22.out, J42.out, Jr2.out, Jb2.out⟩, by show S - ((k : Int) + 1).toNat < S - ((k : Int)).toNat; omega⟩
            rw [Hbit1.out j hj]
            exact rbit_same (fun h1 h2 h3 => by rw [h3]; exact Hbk.out)
        · have q1 : decide ((k : Int) < S) = false := decide_eq_false (by omega)
          have hkk : k = S := by omega
          obtain ⟨a, ha⟩ : ∃ a, a = P - m := ⟨_, rfl⟩
          have hai : ((P : Int) - (m : Int)) = (a : Nat) := by omega
          have haS : a < S := by have := Hcase.out; have := HP.out; omega
          have han : a / 64 < n := by omega
          have ha64 : a < 18446744073709551616 := by omega
          have xg : wr.cell? ⟨g', a / 64, none⟩ = some (.int .u64 (W1 (a / 64) : Nat)) := (Jg.out.cell _).trans (Hget1.out _ han)
          have zg := Jg.out.free (a / 64)
          have y40 : wr.cell? ⟨w.heap.size + 1, 0, none⟩ = some (.int .i64 0) := J4.out.cell 0
          have y41 : wr.cell? ⟨w.heap.size + 1, 1, none⟩ = some (.int .u64 0) := J4.out.cell 1
          have y42 : wr.cell? ⟨w.heap.size + 1, 2, none⟩ = some (.slice none 0 0) := J4.out.cell 2
          have z40 := J4.out.free 0
          have z41 := J4.out.free 1
          have z42 := J4.out.free 2
          have Ha := Lib.hid ha
          have Hkk := Lib.hid hkk
          clear ha hkk
          go_wp2_with fail
          have n43 : w.heap.size + 1 ≠ g' := by omega
          refine bodyPost_ret (v := .tuple #[.agg #[.int .i64 (S : Nat), .int .u64 (P : Nat), .slice (some ⟨g', 0, none⟩) n n], .int .i64 0]) (by simp [results, Try.results21, go_sem, y40, y41, y42]) rfl ?_
          rw [or_nat _ _ (HW1.out _) (Nat.mod_lt _ (by omega))]
          have jg := (((Jg.out.put (a / 64) (.int .u64 ((W1 (a / 64) ||| 2 ^ (a % 64) : Nat) : Nat))).far (p := ⟨w.heap.size + 1, 0, none⟩) (Ne.symm n43) (.int .i64 (S : Nat))).far (p := ⟨w.heap.size + 1, 1, none⟩) (Ne.symm n43) (.int .u64 (P : Nat))).far (p := ⟨w.heap.size + 1, 2, none⟩) (Ne.symm n43) (.slice (some ⟨g', 0, none⟩) n n)
          refine ⟨g', n, putW W1 (a / 64) (W1 (a / 64) ||| 2 ^ (a % 64)), by rw [He.out.1, HE.out, H0.out, ← HP.out]; rfl, Row.of_blk jg (get_put (by rw [Hcs1.out]; exact Nat.le_refl _) Hget1.out), putW_lt HW1.out (or_lt (HW1.out _) (two_pow_lt (Nat.mod_lt _ (by omega)))), fun j hj => ?_, ?_⟩
          · rw [bitW_set, Hbit1.out j hj, He.out.2 j, ← HP.out, ← Hd.out, ← Ha.out]
            by_cases hja : j = a
            · simp [hja, haS]
            · by_cases hjS : j < S
              · have : j - d < k := by have := Hkk.out; omega
                simp [hja, hjS, this]
              · simp [hja, hjS]
          · exact (((Jb.out.setCell (p := ⟨g', a / 64, none⟩) (by show w.heap.size ≤ g'; omega) _).setCell (p := ⟨w.heap.size + 1, 0, none⟩) (by show w.heap.size ≤ w.heap.size + 1; omega) _).setCell (p := ⟨w.heap.size + 1, 1, none⟩) (by show w.heap.size ≤ w.heap.size + 1; omega) _).setCell (p := ⟨w.heap.size + 1, 2, none⟩) (by show w.heap.size ≤ w.heap.size + 1; omega) _
  · have q0 : (((chk S T (bitW W) m : Nat) : Int) != 0) = true := by rw [bne_iff_ne]; omega
    have He : Hid (accT S T (bitW W) m = T ∧ ∀ k, accB S T (bitW W) m k = bitW W k) := Lib.hid ⟨by unfold accT; rw [if_neg h0], fun k => by unfold accB; rw [if_neg h0]⟩
    generalize hE : chk S T (bitW W) m = E at *
    have HE := Lib.hid hE
    clear hE h0
    go_wp2_with fail
    refine bodyPost_ret (v := .tuple #[.agg #[.int .i64 (S : Nat), .int .u64 (T : Nat), .slice (some ⟨g, 0, none⟩) n c], .int .i64 (E : Nat)]) (by simp [results, Try.results21, go_sem, y40, y41, y42]) rfl ?_
    have n4g : g ≠ w.heap.size + 1 := by omega
    refine ⟨g, c, W, by rw [He.out.1, HE.out], ?_, HW.out, fun k hk => (He.out.2 k).symm, ?_⟩
    · intro k hk
      have := HR1.out k hk
      rw [World.cell?_setCell_other _ _ _ _ (by simp), World.cell?_setCell_other _ _ _ _ (by simp), World.cell?_setCell_other _ _ _ _ (by simp)]
      exact this
    · exact ((HBw.out.setCell (p := ⟨w.heap.size + 1, 0, none⟩) (by show w.heap.size ≤ w.heap.size + 1; omega) _).setCell (p := ⟨w.heap.size + 1, 1, none⟩) (by show w.heap.size ≤ w.heap.size + 1; omega) _).setCell (p := ⟨w.heap.size + 1, 2, none⟩) (by show w.heap.size ≤ w.heap.size + 1; omega) _
end Go.Proofs.Ytbepkfdfabgigaa
