/-
  The contract of the reference's comparison of terms.
  Conditions: the terms lie in memory as a tree.
-/
import Derived.Test.YtddiclnkfhldlaaEq
namespace Go.Proofs.Ytddiclnkfhldlaa
open Go.RowKit Go.Sort
set_option linter.unusedVariables false
theorem rorder_any (t : Tm) : ∀ (u : Tm) (w : World) (A B : Option Addr) (c d : Nat), Tr w t A c → Tr w u B d →
    Calls Try.prog 95 #[.agg #[.int .i64 t.op, .int .i64 t.val, .slice A t.args.length c], .agg #[.int .i64 u.op, .int .i64 u.val, .slice B u.args.length d]] w fun e w' => e = .returned (.int .i64 (ordT t u)) ∧ Below w.heap.size w w' := by
  refine Tm.ind (P := fun t => ∀ (u : Tm) (w : World) (A B : Option Addr) (c d : Nat), Tr w t A c → Tr w u B d →
    Calls Try.prog 95 #[.agg #[.int .i64 t.op, .int .i64 t.val, .slice A t.args.length c], .agg #[.int .i64 u.op, .int .i64 u.val, .slice B u.args.length d]] w fun e w' => e = .returned (.int .i64 (ordT t u)) ∧ Below w.heap.size w w') ?_ t
  intro o v l ih u w A B c d ht hu
  obtain ⟨o', v', l'⟩ := u
  have f1 := ht.ofits
  have f2 := hu.ofits
  simp only [Tm.op_mk, Tm.val_mk, Tm.args_mk] at f1 f2 ⊢
  unfold fits maxLen at f1 f2
  by_cases h1 : o < o'
  · have e1 : ordT (.mk o v l) (.mk o' v' l') = -1 := by rw [ordT_mk, if_pos h1]
    rw [e1]
    have q1 : decide ((o : Int) < (o' : Int)) = true := by simp; omega
    have Hi := Lib.hid ih
    have Ht := Lib.hid ht
    have Hu := Lib.hid hu
    clear ih ht hu e1
    go_enter Try.func95, Try.ntmps95
    go_wp2_with fail
    go_ret
    exact ⟨rfl, ((Below.refl _ _).alloc (Nat.le_refl _) _).alloc (by simp) _⟩
  by_cases h2 : o' < o
  · have e1 : ordT (.mk o v l) (.mk o' v' l') = 1 := by rw [ordT_mk, if_neg h1, if_pos h2]
    rw [e1]
    have q1 : decide ((o : Int) < (o' : Int)) = false := by simp; omega
    have q2 : decide ((o' : Int) < (o : Int)) = true := by simp; omega
    have Hi := Lib.hid ih
    have Ht := Lib.hid ht
    have Hu := Lib.hid hu
    clear ih ht hu e1
    go_enter Try.func95, Try.ntmps95
    go_wp2_with fail
    go_ret
    exact ⟨rfl, ((Below.refl _ _).alloc (Nat.le_refl _) _).alloc (by simp) _⟩
  have ho : o = o' := by omega
  subst ho
  clear h1 h2
  by_cases h1 : v < v'
  · have e1 : ordT (.mk o v l) (.mk o v' l') = -1 := by rw [ordT_mk, if_neg (by omega), if_neg (by omega), if_pos h1]
    rw [e1]
    have q1 : decide ((o : Int) < (o : Int)) = false := by simp
    have q2 : decide ((v : Int) < (v' : Int)) = true := by simp; omega
    have Hi := Lib.hid ih
    have Ht := Lib.hid ht
    have Hu := Lib.hid hu
    clear ih ht hu e1
    go_enter Try.func95, Try.ntmps95
    go_wp2_with fail
    go_ret
    exact ⟨rfl, ((Below.refl _ _).alloc (Nat.le_refl _) _).alloc (by simp) _⟩
  by_cases h2 : v' < v
  · have e1 : ordT (.mk o v l) (.mk o v' l') = 1 := by rw [ordT_mk, if_neg (by omega), if_neg (by omega), if_neg h1, if_pos h2]
    rw [e1]
    have q1 : decide ((o : Int) < (o : Int)) = false := by simp
    have q2 : decide ((v : Int) < (v' : Int)) = false := by simp; omega
    have q3 : decide ((v' : Int) < (v : Int)) = true := by simp; omega
    have Hi := Lib.hid ih
    have Ht := Lib.hid ht
    have Hu := Lib.hid hu
    clear ih ht hu e1
    go_enter Try.func95, Try.ntmps95
    go_wp2_with fail
    go_ret
    exact ⟨rfl, ((Below.refl _ _).alloc (Nat.le_refl _) _).alloc (by simp) _⟩
  have hv : v = v' := by omega
  subst hv
  clear h1 h2
  by_cases hl : l.length = l'.length
  · have e0 : ordT (.mk o v l) (.mk o v l') = ordL (l.drop 0) (l'.drop 0) := by rw [ordT_mk, if_neg (by omega), if_neg (by omega), if_neg (by omega), if_neg (by omega), if_neg (by simp [hl])]; rfl
    rw [e0]
    clear e0
    generalize hR : ordL (l.drop 0) (l'.drop 0) = R
    have HR := Lib.hid hR
    clear hR
    have q1 : decide (o < o) = false := by simp
    have q2 : decide (v < v) = false := by simp
    have q3 : (((l.length : Nat) : Int) != ((l'.length : Nat) : Int)) = false := by simp [hl]
    have Hi := Lib.hid ih
    have Hl := Lib.hid hl
    have k1 := heap_alloc_new w (Obj.cells #[.int .i64 o, .int .i64 v, .slice A l.length c] 30)
    have k2 := heap_alloc_new (w.alloc (Obj.cells #[.int .i64 o, .int .i64 v, .slice A l.length c] 30)) (Obj.cells #[.int .i64 o, .int .i64 v, .slice B l'.length d] 30)
    have b1 : Blk ((w.alloc (Obj.cells #[.int .i64 o, .int .i64 v, .slice A l.length c] 30)).alloc (Obj.cells #[.int .i64 o, .int .i64 v, .slice B l'.length d] 30)) w.heap.size 30 #[.int .i64 o, .int .i64 v, .slice A l.length c] := Blk.alloc k1 _
    have b2 : Blk ((w.alloc (Obj.cells #[.int .i64 o, .int .i64 v, .slice A l.length c] 30)).alloc (Obj.cells #[.int .i64 o, .int .i64 v, .slice B l'.length d] 30)) (w.heap.size + 1) 30 #[.int .i64 o, .int .i64 v, .slice B l'.length d] := by
      have := k2
      simp only [World.size_alloc] at this
      exact this
    have tt := (ht.alloc (Obj.cells #[.int .i64 o, .int .i64 v, .slice A l.length c] 30)).alloc (Obj.cells #[.int .i64 o, .int .i64 v, .slice B l'.length d] 30)
    have tu := (hu.alloc (Obj.cells #[.int .i64 o, .int .i64 v, .slice A l.length c] 30)).alloc (Obj.cells #[.int .i64 o, .int .i64 v, .slice B l'.length d] 30)
    have bb : Below w.heap.size w ((w.alloc (Obj.cells #[.int .i64 o, .int .i64 v, .slice A l.length c] 30)).alloc (Obj.cells #[.int .i64 o, .int .i64 v, .slice B l'.length d] 30)) := ((Below.refl _ _).alloc (Nat.le_refl _) _).alloc (by simp) _
    have sz : w.heap.size + 1 < ((w.alloc (Obj.cells #[.int .i64 o, .int .i64 v, .slice A l.length c] 30)).alloc (Obj.cells #[.int .i64 o, .int .i64 v, .slice B l'.length d] 30)).heap.size := by simp
    clear k1 k2 ih hl ht hu
    have B1 := Lib.hid b1
    have B2 := Lib.hid b2
    have TT := Lib.hid tt
    have TU := Lib.hid tu
    have BB := Lib.hid bb
    have SZ := Lib.hid sz
    clear b1 b2 tt tu bb sz
    have hm := follows_mixed
    go_enter Try.func95, Try.ntmps95
    go_wp2_with fail
    generalize (w.alloc (Obj.cells #[.int .i64 o, .int .i64 v, .slice A l.length c] 30)).alloc (Obj.cells #[.int .i64 o, .int .i64 v, .slice B l'.length d] 30) = W at *
    go_loopw [5, 6] (fun i _ wr => ∃ k : Nat, k ≤ l.length ∧ i = .int .i64 k ∧ ordL (l.drop k) (l'.drop k) = R ∧ Below W.heap.size W wr) (fun i _ _ => l.length - (intOf i).toNat)
    case atStart => exact ⟨0, Nat.zero_le _, rfl, HR.out, Below.refl _ _⟩
    case round =>
      obtain ⟨k, hk, rfl, hp, hb⟩ := hrel
      have SZ' := SZ.out
      have d2 : wr.cell? ⟨w.heap.size, 2, none⟩ = some (.slice A l.length c) := (B1.out.below hb (by omega)).cell 2
      have e2 : wr.cell? ⟨w.heap.size + 1, 2, none⟩ = some (.slice B l'.length d) := (B2.out.below hb SZ').cell 2
      by_cases hkl : k < l.length
      · obtain ⟨g, k0, AA, CC, rfl, c0, c1, c2, htr⟩ := (TT.out.bel hb).at k hkl
        obtain ⟨g', k0', BB', DD, rfl, c0', c1', c2', htr'⟩ := (TU.out.bel hb).at k (by have := Hl.out; simpa [← this] using hkl)
        have x1 : (0 : Int) ≤ (k : Int) := by omega
        have x3 : k < l'.length := by have := Hl.out; omega
        have x2 : (k : Int) < (l'.length : Int) := by omega
        simp only [Tm.args_mk] at c0 c1 c2 c0' c1' c2' htr htr'
        have G2 := cell_regrown d2
        have G3 := cell_regrown e2
        have G4 := cell_regrown c0
        have G5 := cell_regrown c1
        have G6 := cell_regrown c2
        have G7 := cell_regrown c0'
        have G8 := cell_regrown c1'
        have G9 := cell_regrown c2'
        have hc : Hid (∀ n os, Calls Try.prog 95 #[.agg #[.int .i64 (l[k]).op, .int .i64 (l[k]).val, .slice AA (l[k]).args.length CC], .agg #[.int .i64 (l'[k]'x3).op, .int .i64 (l'[k]'x3).val, .slice BB' (l'[k]'x3).args.length DD]] (grow (redrawn wr n) os) fun e w'' => e = .returned (.int .i64 (ordT l[k] (l'[k]'x3))) ∧ ∃ p : Regrown, w'' = grow (redrawn wr p.d) p.os) :=
          Lib.hid (fun n os => Calls.regrown_of (Hi.out _ (List.getElem_mem hkl) _ _ _ _ _ _ (htr.bel (below_regrown wr n os)) (htr'.bel (below_regrown wr n os))))
        rw [ordL_drop hkl x3] at hp
        generalize ordT l[k] (l'[k]'x3) = z at hc hp
        have Hb := Lib.hid hb
        have HC := hc
        clear htr htr' hb hc
        by_cases hz : z = 0
        · subst hz
          rw [if_pos rfl] at hp
          have Hp := Lib.hid hp
          clear hp
          go_wp2_with fail
          refine wp_region_quiet_below (by assumption) (by kernel_rfl) ?_
          repeat (go_big_quiet_step (exact HC.out _ _))
          refine wpQuiet_nil ?_
          intro _ hw'
          obtain ⟨⟨dq, osq⟩, hw''⟩ := hw'
          subst hw''
          go_wp2_with fail
          go_roundw
          case rel => exact ⟨k + 1, by omega, by go_num, Hp.out, Hb.out.trans ((below_regrown wr dq osq).mono Hb.out.size)⟩
          case measure => simp [intOf]; omega
        · rw [if_neg hz] at hp
          subst hp
          have q4 : (z != 0) = true := by simp [hz]
          go_wp2_with fail
          refine wp_region_quiet_below (by assumption) (by kernel_rfl) ?_
          repeat (go_big_quiet_step (exact HC.out _ _))
          refine wpQuiet_nil ?_
          intro _ hw'
          obtain ⟨⟨dq, osq⟩, hw''⟩ := hw'
          subst hw''
          go_wp2_with fail
          go_ret
          exact ⟨rfl, BB.out.trans ((Hb.out.trans ((below_regrown wr dq osq).mono Hb.out.size)).mono BB.out.size)⟩
      · have x2 : decide ((k : Int) < (l.length : Int)) = false := by simp; omega
        have Hb := Lib.hid hb
        rw [ordL_nil _ _ _ (by omega)] at hp
        subst hp
        clear hb
        go_wp2_with fail
        go_ret
        exact ⟨rfl, BB.out.trans (Hb.out.mono BB.out.size)⟩
  · have e1 : ordT (.mk o v l) (.mk o v l') = (l.length : Int) - (l'.length : Int) := by rw [ordT_mk, if_neg (by omega), if_neg (by omega), if_neg (by omega), if_neg (by omega), if_pos hl]
    rw [e1]
    have q1 : decide ((o : Int) < (o : Int)) = false := by simp
    have q2 : decide ((v : Int) < (v : Int)) = false := by simp
    have q3 : (((l.length : Nat) : Int) != ((l'.length : Nat) : Int)) = true := by simp; omega
    have Hi := Lib.hid ih
    have Ht := Lib.hid ht
    have Hu := Lib.hid hu
    clear ih ht hu e1
    go_enter Try.func95, Try.ntmps95
    go_wp2_with fail
    go_ret
    exact ⟨rfl, ((Below.refl _ _).alloc (Nat.le_refl _) _).alloc (by simp) _⟩
end Go.Proofs.Ytddiclnkfhldlaa
