/-
  The walk of the law WindowOnce: a number is accepted exactly if it is greater than Top less Size and was not accepted before.
  Conditions: none.
-/
import Derived.Test.YtbepkfdfabgigaaOnceA
import Derived.Deep.CutBlock
import Derived.Deep.RegionHeld3
namespace Go.Proofs.Ytbepkfdfabgigaa.windowOnce
open Go.RowKit
set_option linter.unusedVariables false
/-- The loop's world. -/
def Rel (w : World) (base gc q bw s p : Nat) (v9 v10 v11 : Value) (wr : World) : Prop :=
  ∃ T N : Nat, ∃ B : Nat → Bool, ∃ xs : List Nat, v10 = .int .i64 (T : Nat) ∧ v11 = .int .i64 (N : Nat) ∧ T ≤ 12 * p ∧ N ≤ 12 * p ∧ xs.length ≤ p ∧ Seen s T B xs ∧ Sit w base gc q bw s p T B xs v9 wr
/-- The number that is tried. -/
def Rel2 (w : World) (base gc q bw s p T : Nat) (B : Nat → Bool) (xs : List Nat) (v9 v : Value) (wx : World) : Prop :=
  ∃ N p2 : Nat, v = .int .i64 (N : Nat) ∧ N ≤ 12 * p2 ∧ p < p2 ∧ p2 ≤ q ∧ Sit w base gc q bw s p2 T B xs v9 wx
/-- Whether it is known. -/
def Rel3 (w : World) (base gc q bw s p2 T : Nat) (B : Nat → Bool) (xs : List Nat) (v9 : Value) (K : Bool) (v : Value) (wx : World) : Prop :=
  v = .bool K ∧ Sit w base gc q bw s p2 T B xs v9 wx
/-- The search of the list. -/
def Rel4 (w : World) (base gc q bw s p2 T : Nat) (B : Nat → Bool) (xs : List Nat) (v9 : Value) (N : Nat) (K : Bool) (v12 v13 : Value) (wx : World) : Prop :=
  ∃ i : Nat, v13 = .int .i64 (i : Nat) ∧ i ≤ xs.length ∧ v12 = .bool (K || decide (N ∈ xs.take i)) ∧ Sit w base gc q bw s p2 T B xs v9 wx
/-- Behind the acceptance. -/
def Rel5 (w : World) (base gc q bw s p2 T5 : Nat) (B5 : Nat → Bool) (xs : List Nat) (v9 v10 : Value) (wx : World) : Prop :=
  v10 = .int .i64 (T5 : Nat) ∧ Sit w base gc q bw s p2 T5 B5 xs v9 wx
theorem take_succ_mem {xs : List Nat} {i N m : Nat} (hi : xs[i]? = some m) : (N ∈ xs.take (i + 1)) ↔ (N ∈ xs.take i ∨ N = m) := by
  rw [List.take_add_one, hi]
  simp
theorem known_step {K : Bool} {xs : List Nat} {i N m : Nat} (hi : xs[i]? = some m) : (K || decide (N ∈ xs.take i) || decide (N = m)) = (K || decide (N ∈ xs.take (i + 1))) := by
  have h : decide (N ∈ xs.take (i + 1)) = (decide (N ∈ xs.take i) || decide (N = m)) := by
    rw [← Bool.decide_or]
    exact decide_eq_decide.2 (take_succ_mem hi)
  rw [h, Bool.or_assoc]
set_option maxRecDepth 100000 in
set_option maxHeartbeats 4000000 in
theorem windowOnce_walk (w : World) (A : Option Addr) (len cap : Nat) (h : Byts w A len) (hl : len ≤ cap ∧ cap ≤ maxLen) (a1 : Int) (h1 : -9223372036854775808 ≤ a1 ∧ a1 ≤ 9223372036854775807) :
    Calls Try.prog 6 #[.slice A len cap, .int .i64 a1] w fun e w' => e = .returned (.bool true) ∧ Below w.heap.size w w' := by
  obtain ⟨i0, hi0, hz0, hz1, hz2⟩ := info_parts u64_info
  obtain ⟨r1, hr1⟩ : ∃ s : Nat, a1 % 70 = (s : Nat) := ⟨(a1 % 70).toNat, by omega⟩
  have hr70 : r1 < 70 := by omega
  obtain ⟨s, hs⟩ : ∃ s, s = r1 + 1 := ⟨_, rfl⟩
  have hsi : (1 : Int) + (r1 : Int) = (s : Nat) := by omega
  have hs0 : 1 ≤ s := by omega
  have hs8 : s ≤ 70 := by omega
  have Hs := Lib.hid hs
  have HR1 := Lib.hid hr1
  clear hs hr1
  go_enter Try.func6, Try.ntmps6
  go_wp2_with fail
  refine (awake_any _).mono ?_
  rintro e w' ⟨rfl, rfl⟩
  go_wp2_with fail
  refine (new_any A len cap 100 w h hl.1 hl.2 (by omega) (by omega)).mono ?_
  rintro e w1 ⟨gc, q, rfl, hgc, hcod, hq, hb1⟩
  go_wp2_with fail
  refine (mod_any a1 70 _ (by omega) (by omega) h1.1 h1.2).mono ?_
  rintro e w' ⟨rfl, rfl⟩
  rw [HR1.out]
  have hgclt := hcod.lt
  have Hcod := Lib.hid hcod
  have Hb1 := Lib.hid hb1
  clear hcod hb1 hq
  go_wp2_with fail
  refine (winnew_any s _ (by omega) (by omega)).mono ?_
  rintro e w4 ⟨g, rfl, hg, hr, hb4⟩
  have hz4 := hb4.size
  have hwz := Hb1.out.size
  have hc4 := (Hcod.out.below hb4).alloc (Obj.cells #[.int .i64 (s : Nat), .int .u64 0, .slice (some ⟨g, 0, none⟩) ((s + 63) / 64) ((s + 63) / 64)] 30)
  have hk4 : Blk (w4.alloc (Obj.cells #[.int .i64 (s : Nat), .int .u64 0, .slice (some ⟨g, 0, none⟩) ((s + 63) / 64) ((s + 63) / 64)] 30)) w4.heap.size 30 #[.int .i64 (s : Nat), .int .u64 (0 : Nat), .slice (some ⟨g, 0, none⟩) ((s + 63) / 64) ((s + 63) / 64)] := heap_alloc_new w4 _
  have hr4 := (wrow_new hr).alloc (Obj.cells #[.int .i64 (s : Nat), .int .u64 0, .slice (some ⟨g, 0, none⟩) ((s + 63) / 64) ((s + 63) / 64)] 30)
  have hbw := (Hb1.out.trans (hb4.mono Hb1.out.size)).alloc (by omega) (Obj.cells #[.int .i64 (s : Nat), .int .u64 0, .slice (some ⟨g, 0, none⟩) ((s + 63) / 64) ((s + 63) / 64)] 30)
  have hbw0 : w.heap.size ≤ w4.heap.size := by omega
  have nbg : w4.heap.size ≠ gc := by omega
  go_upto_region 9 with (fail)
  generalize w4.alloc (Obj.cells #[.int .i64 (s : Nat), .int .u64 0, .slice (some ⟨g, 0, none⟩) ((s + 63) / 64) ((s + 63) / 64)] 30) = W5 at *
  generalize w4.heap.size = bw at *
  have hbwlt := hk4.lt
  obtain ⟨base, hbase⟩ : ∃ base, base = W5.heap.size := ⟨_, rfl⟩
  have H0 : Hid (Rel w base gc q bw s 0 (.slice none 0 0) (.int .i64 (0 : Nat)) (.int .i64 (0 : Nat)) W5) :=
    Lib.hid ⟨0, 0, _, [], rfl, rfl, by omega, by omega, by simp, seen_nil s, by omega, by omega, hgc, hbw0, nbg, hs0, by omega, hc4, hbw, ⟨g, _, _, hk4, hr4, by simp [Value.ownBlock]⟩, World.ownsRow_nil _ _ _ _, fun _ => rfl⟩
  clear hc4 hk4 hr4 hbw hb4 hr
  go_wp2_with fail
  go_loopw [9, 10, 11] (fun v9 v10 v11 wr => ∃ p, Rel w base gc q bw s p v9 v10 v11 wr) (fun _ _ _ wr => q - atOf wr gc)
  case atStart => exact ⟨0, H0.out⟩
  case round =>
    obtain ⟨p, T, N0, B, xs, rfl, rfl, hT, hN0, hxs, hseen, hsit⟩ := hrel
    have hat := hsit.at
    have hcod := hsit.2.2.2.2.2.2.2.1
    have hbelw := hsit.2.2.2.2.2.2.2.2.1
    have hpq := hcod.le
    have hq250 := hcod.2.1
    have Hsit := Lib.hid hsit
    have Hseen := Lib.hid hseen
    have Hcod := Lib.hid hcod
    have Hbelw := Lib.hid hbelw
    have Hat := Lib.hid hat
    clear hsit hseen hcod hat hbelw
    by_cases hpn : p < q
    · have Hl : ∀ W', W' = wr → Calls Try.prog 20 #[.pointer (some ⟨gc, 0, none⟩)] W' fun e w' => e = .returned (.bool true) ∧ ∃ d, w' = wr.drewN d := by
        rintro W' rfl
        have := left_any gc q p W' Hcod.out
        rw [decide_eq_true hpn] at this
        exact this
      have HL := Lib.hid Hl
      clear Hl
      go_wp2_with fail
      refine (HL.out _ rfl).mono ?_
      rintro e w1 ⟨rfl, d, rfl⟩
      go_upto_region 11 with (fail)
      go_cut [11] (Rel2 w base gc q bw s p T B xs u9)
      case first =>
        have Fin : Hid (∀ (x : Int) (M p2 : Nat) (w2 : World), x = (M : Nat) → M ≤ 12 * p2 → p < p2 → Cod w2 gc q p2 → wr.grownBy w2 (some gc) → Rel2 w base gc q bw s p T B xs u9 (.int .i64 x) w2) :=
          Lib.hid (fun x M p2 w2 hx hM hp hc ho => ⟨M, p2, by rw [hx], hM, hp, hc.le, Hsit.out.next hc ho⟩)
        go_wp2_with fail
        refine (next_any gc q p 12 _ (Hcod.out.drewN d) (by omega) (by omega)).mono ?_
        rintro e w2 ⟨r, p2, rfl, hr12, hc2, _, hp2, ho2⟩
        have Hp2 := Lib.hid (hp2 hpn)
        have Ho2 : Hid (wr.grownBy w2 (some gc)) := Lib.hid (only_trans (only_drewN (only_refl wr _) d) ho2)
        have Hc2 := Lib.hid hc2
        clear hc2 ho2 hp2
        go_wp2_with fail
        all_goals go_meet
        · exact Fin.out _ (N0 + r - 5) p2 _ (by omega) (by have := Hp2.out; omega) Hp2.out Hc2.out Ho2.out
        · exact Fin.out _ 0 p2 _ rfl (by omega) Hp2.out Hc2.out Ho2.out
      case rest =>
        obtain ⟨N, p2, rfl, hN, hp2, hp2q, hsit2⟩ := hcut
        have Hs2 := Lib.hid hsit2
        have Hp2 := Lib.hid hp2
        clear hsit2
        have hNb : N ≤ 3000 := by omega
        have hTb : T ≤ 3000 := by omega
        obtain ⟨K, hK⟩ : ∃ K : Bool, K = decide (N = 0 ∨ N + s ≤ T) := ⟨_, rfl⟩
        have HK := Lib.hid hK
        clear hK
        go_upto_region 12 with (fail)
        go_cut [12] (Rel3 w base gc q bw s p2 T B xs u9 K)
        case first =>
          have Fin : Hid (∀ b : Bool, b = K → Rel3 w base gc q bw s p2 T B xs u9 K (.bool b) wc) := Lib.hid (fun b hb => ⟨by rw [hb], Hs2.out⟩)
          by_cases hN0' : N = 0
          · have q1 : ((N : Int) == 0) = true := beq_iff_eq.2 (by omega)
            have hf : true = K := by rw [HK.out]; exact (decide_eq_true (.inl hN0')).symm
            have Hf := Lib.hid hf
            clear hN0' hf
            go_wp2_with fail
            go_meet
            exact Fin.out _ Hf.out
          · have q1 : ((N : Int) == 0) = false := beq_eq_false_iff_ne.2 (by omega)
            by_cases hNs : N + s ≤ T
            · have q2 : decide ((N : Int) + (s : Int) ≤ (T : Int)) = true := decide_eq_true (by omega)
              have hf : true = K := by rw [HK.out]; exact (decide_eq_true (.inr hNs)).symm
              have Hf := Lib.hid hf
              clear hN0' hf
              go_wp2_with fail
              go_meet
              exact Fin.out _ Hf.out
            · have q2 : decide ((N : Int) + (s : Int) ≤ (T : Int)) = false := decide_eq_false (by omega)
              have hf : false = K := by rw [HK.out]; exact (decide_eq_false (fun e => e.elim hN0' hNs)).symm
              have Hf := Lib.hid hf
              clear hN0' hf
              go_wp2_with fail
              go_meet
              exact Fin.out _ Hf.out
        case rest =>
          obtain ⟨rfl, hsit3⟩ := hcut
          have H4 : Hid (Rel4 w base gc q bw s p2 T B xs u9 N K (.bool K) (.int .i64 (0 : Nat)) wc) := Lib.hid ⟨0, rfl, Nat.zero_le _, by simp, hsit3⟩
          have hlen : xs.length ≤ 250 := by omega
          clear hsit3
          go_wp2_with fail
          go_loopw [12, 13] (fun v12 v13 wr => Rel4 w base gc q bw s p2 T B xs u9 N K v12 v13 wr) (fun _ v13 _ => ((xs.length : Int) - intOf v13).toNat)
          case atStart => exact H4.out
          case round =>
            obtain ⟨i, rfl, hi, rfl, hsit4⟩ := hrel
            obtain ⟨kn, hkn⟩ : ∃ kn : Bool, kn = (K || decide (N ∈ xs.take i)) := ⟨_, rfl⟩
            rw [← hkn]
            have Hkn := Lib.hid hkn
            clear hkn
            have Hs4 := Lib.hid hsit4
            by_cases hix : i < xs.length
            · have q1 : decide ((i : Int) < (xs.length : Int)) = true := decide_eq_true (by omega)
              obtain ⟨g9, c9, rfl, hg9, hg9l⟩ := hsit4.own.form (by omega)
              obtain ⟨m, hm⟩ : ∃ m, xs[i]? = some m := ⟨xs[i], List.getElem?_eq_getElem hix⟩
              have z : wr.cell? ⟨g9, i, none⟩ = some (.int .u64 (m : Nat)) := (hsit4.own.cellAt i (by omega)).trans (by simp [cellsOf, hm])
              have i1 : (0 : Int) ≤ (i : Int) := by omega
              have i2 : (i : Int) < (xs.length : Int) := by omega
              have Fin : Hid (∀ b : Bool, b = (kn || decide (N = m)) → Rel4 w base gc q bw s p2 T B xs (.slice (some ⟨g9, 0, none⟩) xs.length c9) N K (.bool b) (.int .i64 ((i : Int) + 1)) wr) := Lib.hid (fun b hb => by
                refine ⟨i + 1, by rw [Int.natCast_add]; rfl, by omega, ?_, Hs4.out⟩
                rw [hb, Hkn.out, known_step hm])
              clear hsit4
              rcases kn with _ | _
              · by_cases hmN : m = N
                · have q2 : ((m : Int) == (N : Int)) = true := beq_iff_eq.2 (by omega)
                  have hf : true = (false || decide (N = m)) := by rw [decide_eq_true hmN.symm]; rfl
                  have Hf := Lib.hid hf
                  clear hf hm hmN
                  go_wp2_with fail
                  go_roundw
                  case rel => exact Fin.out _ Hf.out
                  case measure => simp [intOf]; omega
                · have q2 : ((m : Int) == (N : Int)) = false := beq_eq_false_iff_ne.2 (by omega)
                  have hf : false = (false || decide (N = m)) := by rw [decide_eq_false (fun e => hmN e.symm)]; rfl
                  have Hf := Lib.hid hf
                  clear hf hm hmN
                  go_wp2_with fail
                  go_roundw
                  case rel => exact Fin.out _ Hf.out
                  case measure => simp [intOf]; omega
              · clear hm
                go_wp2_with fail
                go_roundw
                case rel => exact Fin.out _ (by simp)
                case measure => simp [intOf]; omega
            · have q1 : decide ((i : Int) < (xs.length : Int)) = false := decide_eq_false (by omega)
              have hie : i = xs.length := by omega
              subst hie
              obtain ⟨A9, c9, rfl⟩ := own_form hsit4.own
              have hown4 := hsit4.own
              have hchk : chk s T B N = 0 ↔ kn = false := by
                rw [seen_chk Hseen.out, Hkn.out, List.take_length, HK.out]
                simp [and_assoc]
              obtain ⟨g6, n6, c6, hk6, hr6, hne6⟩ := hsit4.2.2.2.2.2.2.2.2.2.1
              have hbwb : bw < base := hsit4.2.1
              have hbs : base ≤ wr.heap.size := hsit4.bas
              have x0 : wr.cell? ⟨bw, 0, none⟩ = some (.int .i64 (s : Nat)) := hk6.cell 0
              have x1 : wr.cell? ⟨bw, 1, none⟩ = some (.int .u64 (T : Nat)) := hk6.cell 1
              have x2 : wr.cell? ⟨bw, 2, none⟩ = some (.slice (some ⟨g6, 0, none⟩) n6 c6) := hk6.cell 2
              have Hr6 := Lib.hid hr6
              have Hown4 := Lib.hid hown4
              clear hk6 hr6 hne6 hown4 hsit4
              go_wp2_with fail
              refine (waccept s T g6 n6 c6 B N _ hs0 (by omega) (by omega) (by omega) Hr6.out).mono ?_
              rintro e w5 ⟨g5, c5, rfl, hg5, hr5, hb5⟩
              have hz5 := hb5.size
              have hT5 := accT_le s T N B
              have hsn := fun hc => seen_acc (N := N) Hseen.out hc
              generalize hT5e : accT s T B N = T5 at *
              generalize hB5e : accB s T B N = B5 at *
              generalize hE5e : chk s T B N = E5 at *
              have HTm : Hid (E5 = 0 → T5 = max T N) := Lib.hid (fun hc => by rw [← hT5e]; unfold accT; rw [if_pos (hE5e.trans hc)])
              have Hsn := Lib.hid hsn
              clear hT5e hB5e hE5e hsn
              have hlt4 := Hown4.out.lt
              have HMid : Hid (Mid w base gc q bw s p2 T B xs (.slice A9 xs.length c9) w5.heap.size T5 g5 n6 c5 B5 (w5.alloc (Obj.cells #[.int .i64 (s : Nat), .int .u64 (T5 : Nat), .slice (some ⟨g5, 0, none⟩) n6 c5] 30))) :=
                Lib.hid ⟨(Hs4.out.below hb5).alloc _, hr5.alloc _, fun e => by have := hlt4 _ e; omega, by omega, fun e => by have := hlt4 _ e; omega, heap_alloc_new w5 _⟩
              clear x0 x1 x2 hb5 hr5 hlt4
              go_upto_region 18 with (fail)
              generalize w5.alloc (Obj.cells #[.int .i64 (s : Nat), .int .u64 (T5 : Nat), .slice (some ⟨g5, 0, none⟩) n6 c5] 30) = W6 at *
              have hbnb : w5.heap.size ≠ bw := by omega
              have hbnl : base ≤ w5.heap.size := by omega
              generalize w5.heap.size = bn at *
              by_cases hE : E5 = 0
              · have hkf : kn = false := hchk.1 hE
                subst hkf
                have q2 : ((E5 : Int) == 0) = true := beq_iff_eq.2 (by omega)
                have HEz := Lib.hid hE
                clear hE hchk
                go_upto_region 21 with (fail)
                go_cut [9, 10] (Rel5 w base gc q bw s p2 T5 B5 (xs ++ [N]))
                case first =>
                  have OW : Hid (∀ (T' : Nat) (B' : Nat → Bool) (wx : World), Mid w base gc q bw s p2 T' B' xs (.slice A9 xs.length c9) bn T5 g5 n6 c5 B5 wx → wx.ownsRow base 22 1 (.slice A9 xs.length c9) xs.length (cellsOf xs) ∧ base ≤ wx.heap.size) := Lib.hid (fun T' B' wx h => ⟨h.1.own, h.1.bas⟩)
                  have hbwlt6 : bw < W6.heap.size := by have := HMid.out.1.bas; omega
                  have hbnlt6 : bn < W6.heap.size := HMid.out.2.2.2.2.2.lt
                  have nlb : W6.heap.size ≠ bw := by omega
                  have L1 : Hid (Blk (W6.alloc (Obj.cells #[.int .u64 (N : Nat)] 22)) W6.heap.size 22 #[.int .u64 (N : Nat)]) := Lib.hid (heap_alloc_new W6 _)
                  have LD : Hid (Blk (W6.drew.alloc (Obj.cells #[.int .u64 (N : Nat)] 22)) W6.heap.size 22 #[.int .u64 (N : Nat)]) := Lib.hid (heap_alloc_new W6.drew _)
                  have NB : Hid (∀ wx : World, Blk wx W6.heap.size 22 #[.int .u64 (N : Nat)] → ∀ (j : Nat) (u : Value), [Value.int .u64 (N : Nat)][j]? = some u → wx.cell? ((⟨W6.heap.size, 0, none⟩ : Addr).add j) = some u) := Lib.hid (fun wx hb => World.news_of_block (cs := #[.int .u64 (N : Nat)]) (t := 22) (fr := (0, 0)) hb)
                  have KX : Hid (∀ (wx w7 : World) (g7 c7 : Nat), Mid w base gc q bw s p2 T B xs (.slice A9 xs.length c9) bn T5 g5 n6 c5 B5 wx → w7.ownsRow base 22 1 (.slice (some ⟨g7, 0, none⟩) (xs.length + 1) c7) (xs.length + 1) (cellsOf xs ++ [.int .u64 (N : Nat)]) → wx.grownBy w7 (Value.slice A9 xs.length c9).ownBlock → ((Value.slice A9 xs.length c9).ownBlock = some g7 ∨ g7 = wx.heap.size) →
                      (w7.cell? ⟨bn, 0, none⟩ = some (.int .i64 (s : Nat)) ∧ w7.cell? ⟨bn, 1, none⟩ = some (.int .u64 (T5 : Nat)) ∧ w7.cell? ⟨bn, 2, none⟩ = some (.slice (some ⟨g5, 0, none⟩) n6 c5)) ∧
                      (∃ g8 n8 c8 : Nat, w7.cell? ⟨bw, 0, none⟩ = some (.int .i64 (s : Nat)) ∧ w7.cell? ⟨bw, 1, none⟩ = some (.int .u64 (T : Nat)) ∧ w7.cell? ⟨bw, 2, none⟩ = some (.slice (some ⟨g8, 0, none⟩) n8 c8)) ∧
                      (w7.frozen? ⟨bw, 0, none⟩ = false ∧ w7.frozen? ⟨bw, 1, none⟩ = false ∧ w7.frozen? ⟨bw, 2, none⟩ = false) ∧
                      Hid (∀ x : Int, x = (T5 : Nat) → Rel5 w base gc q bw s p2 T5 B5 (xs ++ [N]) (.slice (some ⟨g7, 0, none⟩) (xs.length + 1) c7) (.int .i64 x) (((w7.setCell ⟨bw, 0, none⟩ (.int .i64 (s : Nat))).setCell ⟨bw, 1, none⟩ (.int .u64 (T5 : Nat))).setCell ⟨bw, 2, none⟩ (.slice (some ⟨g5, 0, none⟩) n6 c5)))) := Lib.hid (fun wx w7 g7 c7 hm ho hg ha => by
                    have hm7 := hm.appended ho hg ha
                    obtain ⟨g8, n8, c8, ⟨b0, b1, b2⟩, hf⟩ := hm7.1.box
                    exact ⟨hm7.boxn, ⟨g8, n8, c8, b0, b1, b2⟩, hf, Lib.hid (fun x hx => ⟨by rw [hx], hm7.stored.1⟩)⟩)
                  have Hone : Hid (∀ u ∈ [Value.int .u64 (N : Nat)], u.oneCell' = true) := Lib.hid (by simp [Value.oneCell'])
                  have H63 : Hid (xs.length + 1 ≤ maxLen) := Lib.hid (by unfold maxLen; omega)
                  have Hby : Hid ((xs.length + 1) * 8 ≤ 140737488355328) := Lib.hid (by omega)
                  have hwN : IntKind.u64.wrap (N : Int) = (N : Int) := by rw [IntKind.wrap_u64]; omega
                  obtain ⟨s0, s1, s2⟩ := HMid.out.boxn
                  obtain ⟨g8, n8, c8, ⟨x0, x1, x2⟩, f0, f1, f2⟩ := HMid.out.1.box
                  have nw0 := World.new_ne W6 ⟨bn, 0, none⟩ s0
                  have nw1 := World.new_ne W6 ⟨bn, 1, none⟩ s1
                  have nw2 := World.new_ne W6 ⟨bn, 2, none⟩ s2
                  have nx0 := World.new_ne W6 ⟨bw, 0, none⟩ x0
                  have nx1 := World.new_ne W6 ⟨bw, 1, none⟩ x1
                  have nx2 := World.new_ne W6 ⟨bw, 2, none⟩ x2
                  have hbnb' : bw ≠ bn := Ne.symm hbnb
                  have nlb' : bw ≠ W6.heap.size := Ne.symm nlb
                  have hmax : T5 = max T N := HTm.out HEz.out
                  have Hmax := Lib.hid hmax
                  clear hmax
                  go_wp2_with fail
                  go_region_held3 (fun w' => w'.cell? ⟨bn, 0, none⟩ = some (.int .i64 (s : Nat)) ∧ w'.cell? ⟨bn, 1, none⟩ = some (.int .u64 (T5 : Nat)) ∧ w'.cell? ⟨bn, 2, none⟩ = some (.slice (some ⟨g5, 0, none⟩) n6 c5))
                    (first
                      | (exact ⟨y0, y1, y2⟩)
                      | go_keep)
                    ((refine step_append_lies _ (by rfl) _ _ _ (by rfl) base 22 i0 _ 1 8 Try.underlying25 hi0 hz0 hz1 hz2 rfl (by omega) (.slice A9 xs.length c9) xs.length (cellsOf xs) (by rfl) (OW.out _ _ _ (by repeat (first | with_reducible exact HMid.out | with_reducible apply Mid.drew | with_reducible apply Mid.alloc))).1 ⟨W6.heap.size, 0, none⟩ 1 1 [.int .u64 (N : Nat)] (by rfl) (by rfl) (NB.out _ (by repeat (first | with_reducible exact L1.out | with_reducible exact LD.out | with_reducible apply Blk.drew))) Hone.out (by omega) H63.out Hby.out (OW.out _ _ _ (by repeat (first | with_reducible exact HMid.out | with_reducible apply Mid.drew | with_reducible apply Mid.alloc))).2 _ rfl ?_; intro g7 c7 w7 hown hgrow hat7 hlt7; obtain ⟨⟨y0, y1, y2⟩, ⟨g8', n8', c8', v0, v1, v2⟩, ⟨t0, t1, t2⟩, hfin⟩ := KX.out _ _ _ _ (by repeat (first | with_reducible exact HMid.out | with_reducible apply Mid.drew | with_reducible apply Mid.alloc)) hown hgrow hat7; clear hgrow hown hat7))
                  all_goals go_wp2_with fail
                  all_goals go_meet
                  all_goals exact hfin.out _ (by rw [Hmax.out]; omega)
                case rest =>
                  obtain ⟨rfl, hsit6⟩ := hcut
                  obtain ⟨g8, n8, c8, ⟨x0, x1, x2⟩, _⟩ := hsit6.box
                  have hwT : IntKind.u64.wrap (T5 : Int) = (T5 : Int) := by rw [IntKind.wrap_u64]; omega
                  have Hs6 := Lib.hid hsit6
                  have hmax : T5 = max T N := HTm.out HEz.out
                  have Hmax := Lib.hid hmax
                  clear hmax hsit6
                  go_wp2_with fail
                  go_roundw
                  case rel => exact ⟨p2, T5, N, B5, xs ++ [N], rfl, rfl, by have := Hp2.out; have := Hmax.out; omega, hN, by have := Hp2.out; rw [List.length_append]; simp only [List.length_singleton]; omega, Hsn.out HEz.out, Hs6.out⟩
                  case measure => rw [Hs6.out.at, Hat.out]; have := Hp2.out; omega
              · have hkf : kn = true := by
                  rcases kn with _ | _
                  · exact absurd (hchk.2 rfl) hE
                  · rfl
                subst hkf
                have q2 : ((E5 : Int) == 0) = false := beq_eq_false_iff_ne.2 (by omega)
                obtain ⟨g8, n8, c8, ⟨x0, x1, x2⟩, _⟩ := HMid.out.1.box
                clear hE hchk
                go_wp2_with fail
                go_roundw
                case rel => exact ⟨p2, T, N, B, xs, rfl, rfl, by have := Hp2.out; omega, hN, by have := Hp2.out; omega, Hseen.out, HMid.out.1⟩
                case measure => rw [HMid.out.1.at, Hat.out]; have := Hp2.out; omega
    · have Hl : ∀ W', W' = wr → Calls Try.prog 20 #[.pointer (some ⟨gc, 0, none⟩)] W' fun e w' => e = .returned (.bool false) ∧ ∃ d, w' = wr.drewN d := by
        rintro W' rfl
        have := left_any gc q p W' Hcod.out
        rw [decide_eq_false hpn] at this
        exact this
      have HL := Lib.hid Hl
      clear Hl
      go_wp2_with fail
      refine (HL.out _ rfl).mono ?_
      rintro e w1 ⟨rfl, d, rfl⟩
      go_wp2_with fail
      go_ret
      exact ⟨rfl, below_drewN Hbelw.out d⟩
end Go.Proofs.Ytbepkfdfabgigaa.windowOnce
