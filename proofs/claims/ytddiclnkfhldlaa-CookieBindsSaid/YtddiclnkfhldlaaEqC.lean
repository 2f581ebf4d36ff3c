/-
  The contract of the program's comparison of terms.
  Conditions: the terms lie in memory as a tree.
-/
import Derived.Test.YtddiclnkfhldlaaEqB
import Derived.Deep.DeepCutAuto
import Derived.Deep.Cut
import Derived.Deep.CutBlock
import Derived.Deep.CutRange
namespace Go.Proofs.Ytddiclnkfhldlaa
open Go.RowKit Go.Sort
set_option linter.unusedVariables false
theorem cell_alloc {w : World} {a : Addr} {v : Value} {o : Obj} (h : w.cell? a = some v) : (w.alloc o).cell? a = some v :=
  (World.cell?_alloc_lt w o a (World.block_lt_of_cell? w a h)).trans h
/-- Which of the three pairs is looked at, and what the elder ones said. -/
def PairsAt (o o' v v' : Int) (n n' : Nat) (i : Value) : Prop :=
  i = .int .i64 0 ∨ (i = .int .i64 1 ∧ o = o') ∨ (i = .int .i64 2 ∧ o = o' ∧ v = v') ∨ (i = .int .i64 3 ∧ o = o' ∧ v = v' ∧ n = n')
theorem compare_any (t : Tm) : ∀ (u : Tm) (w : World) (A B : Option Addr) (c d : Nat), Tr w t A c → Tr w u B d →
    Calls Try.prog 88 #[.agg #[.int .i64 t.op, .int .i64 t.val, .slice A t.args.length c], .agg #[.int .i64 u.op, .int .i64 u.val, .slice B u.args.length d]] w fun e w' => e = .returned (.int .i64 (cmpV t u)) ∧ Below w.heap.size w w' := by
  refine Tm.ind (P := fun t => ∀ (u : Tm) (w : World) (A B : Option Addr) (c d : Nat), Tr w t A c → Tr w u B d →
    Calls Try.prog 88 #[.agg #[.int .i64 t.op, .int .i64 t.val, .slice A t.args.length c], .agg #[.int .i64 u.op, .int .i64 u.val, .slice B u.args.length d]] w fun e w' => e = .returned (.int .i64 (cmpV t u)) ∧ Below w.heap.size w w') ?_ t
  intro o v l ih u w A B c d ht hu
  obtain ⟨o', v', l'⟩ := u
  have f1 := ht.ofits
  have f2 := hu.ofits
  simp only [Tm.op_mk, Tm.val_mk, Tm.args_mk] at f1 f2 ⊢
  unfold fits maxLen at f1 f2
  have i0 : ∀ w, (Instr.index 138 (.agg #[.int .i64 o, .int .i64 o', .int .i64 v, .int .i64 v', .int .i64 (l.length : Nat), .int .i64 (l'.length : Nat)]) (.int .i64 0)).run Try.prog w = .ok (.agg #[.int .i64 o, .int .i64 o']) w := fun _ => by kernel_rfl
  have i1 : ∀ w, (Instr.index 138 (.agg #[.int .i64 o, .int .i64 o', .int .i64 v, .int .i64 v', .int .i64 (l.length : Nat), .int .i64 (l'.length : Nat)]) (.int .i64 1)).run Try.prog w = .ok (.agg #[.int .i64 v, .int .i64 v']) w := fun _ => by kernel_rfl
  have i2 : ∀ w, (Instr.index 138 (.agg #[.int .i64 o, .int .i64 o', .int .i64 v, .int .i64 v', .int .i64 (l.length : Nat), .int .i64 (l'.length : Nat)]) (.int .i64 2)).run Try.prog w = .ok (.agg #[.int .i64 (l.length : Nat), .int .i64 (l'.length : Nat)]) w := fun _ => by kernel_rfl
  have Hi := Lib.hid ih
  have k1 := heap_alloc_new w (Obj.cells #[.int .i64 o, .int .i64 v, .slice A l.length c] 30)
  have k2 := heap_alloc_new (w.alloc (Obj.cells #[.int .i64 o, .int .i64 v, .slice A l.length c] 30)) (Obj.cells #[.int .i64 o', .int .i64 v', .slice B l'.length d] 30)
  have b1 : Blk ((w.alloc (Obj.cells #[.int .i64 o, .int .i64 v, .slice A l.length c] 30)).alloc (Obj.cells #[.int .i64 o', .int .i64 v', .slice B l'.length d] 30)) w.heap.size 30 #[.int .i64 o, .int .i64 v, .slice A l.length c] := Blk.alloc k1 _
  have b2 : Blk ((w.alloc (Obj.cells #[.int .i64 o, .int .i64 v, .slice A l.length c] 30)).alloc (Obj.cells #[.int .i64 o', .int .i64 v', .slice B l'.length d] 30)) (w.heap.size + 1) 30 #[.int .i64 o', .int .i64 v', .slice B l'.length d] := by
    have := k2
    simp only [World.size_alloc] at this
    exact this
  have tt := (ht.alloc (Obj.cells #[.int .i64 o, .int .i64 v, .slice A l.length c] 30)).alloc (Obj.cells #[.int .i64 o', .int .i64 v', .slice B l'.length d] 30)
  have tu := (hu.alloc (Obj.cells #[.int .i64 o, .int .i64 v, .slice A l.length c] 30)).alloc (Obj.cells #[.int .i64 o', .int .i64 v', .slice B l'.length d] 30)
  have bb : Below w.heap.size w ((w.alloc (Obj.cells #[.int .i64 o, .int .i64 v, .slice A l.length c] 30)).alloc (Obj.cells #[.int .i64 o', .int .i64 v', .slice B l'.length d] 30)) := ((Below.refl _ _).alloc (Nat.le_refl _) _).alloc (by simp) _
  have sz : w.heap.size + 1 < ((w.alloc (Obj.cells #[.int .i64 o, .int .i64 v, .slice A l.length c] 30)).alloc (Obj.cells #[.int .i64 o', .int .i64 v', .slice B l'.length d] 30)).heap.size := by simp
  clear k1 k2 ih ht hu
  have B1 := Lib.hid b1
  have B2 := Lib.hid b2
  have TT := Lib.hid tt
  have TU := Lib.hid tu
  have BB := Lib.hid bb
  have SZ := Lib.hid sz
  clear b1 b2 tt tu bb sz
  generalize hR0 : cmpV (.mk o v l) (.mk o' v' l') = R
  have HR0 := Lib.hid hR0
  clear hR0
  have hm := follows_mixed
  go_enter Try.func88, Try.ntmps88
  go_wp2_with fail
  generalize (w.alloc (Obj.cells #[.int .i64 o, .int .i64 v, .slice A l.length c] 30)).alloc (Obj.cells #[.int .i64 o', .int .i64 v', .slice B l'.length d] 30) = W at *
  go_loopw [28] (fun i wr => PairsAt o o' v v' l.length l'.length i ∧ Below W.heap.size W wr) (fun i _ => 3 - (intOf i).toNat)
  case atStart => exact ⟨.inl rfl, Below.refl _ _⟩
  case round =>
    obtain ⟨hp, hb⟩ := hrel
    have SZ' := SZ.out
    rcases hp with rfl | ⟨rfl, ho⟩ | ⟨rfl, ho, hv⟩ | ⟨rfl, ho, hv, hl⟩
    · have Hb := Lib.hid hb
      clear hb
      by_cases h1 : o < o'
      · have e1 : R = -1 := by rw [← HR0.out, cmpV_mk, if_pos h1]
        subst e1
        have q1 : decide ((o : Int) < (o' : Int)) = true := by simp; omega
        clear h1
        go_wp2_with fail
        go_ret
        exact ⟨rfl, BB.out.trans ((Hb.out.alloc Hb.out.size _).mono BB.out.size)⟩
      by_cases h2 : o' < o
      · have e1 : R = 1 := by rw [← HR0.out, cmpV_mk, if_neg h1, if_pos h2]
        subst e1
        have q1 : decide ((o : Int) < (o' : Int)) = false := by simp; omega
        have q2 : decide ((o' : Int) < (o : Int)) = true := by simp; omega
        clear h1 h2
        go_wp2_with fail
        go_ret
        exact ⟨rfl, BB.out.trans ((Hb.out.alloc Hb.out.size _).mono BB.out.size)⟩
      have he : o = o' := by omega
      have HE := Lib.hid he
      have q1 : decide ((o : Int) < (o' : Int)) = false := by simp; omega
      have q2 : decide ((o' : Int) < (o : Int)) = false := by simp; omega
      clear h1 h2 he
      go_wp2_with fail
      go_roundw
      case rel => exact ⟨.inr (.inl ⟨rfl, HE.out⟩), Hb.out.alloc Hb.out.size _⟩
      case measure => simp [intOf]
    · subst ho
      have Hb := Lib.hid hb
      clear hb
      by_cases h1 : v < v'
      · have e1 : R = -1 := by rw [← HR0.out, cmpV_mk, if_neg (by omega), if_neg (by omega), if_pos h1]
        subst e1
        have q1 : decide ((v : Int) < (v' : Int)) = true := by simp; omega
        clear h1
        go_wp2_with fail
        go_ret
        exact ⟨rfl, BB.out.trans ((Hb.out.alloc Hb.out.size _).mono BB.out.size)⟩
      by_cases h2 : v' < v
      · have e1 : R = 1 := by rw [← HR0.out, cmpV_mk, if_neg (by omega), if_neg (by omega), if_neg h1, if_pos h2]
        subst e1
        have q1 : decide ((v : Int) < (v' : Int)) = false := by simp; omega
        have q2 : decide ((v' : Int) < (v : Int)) = true := by simp; omega
        clear h1 h2
        go_wp2_with fail
        go_ret
        exact ⟨rfl, BB.out.trans ((Hb.out.alloc Hb.out.size _).mono BB.out.size)⟩
      have he : v = v' := by omega
      have HE := Lib.hid he
      have q1 : decide ((v : Int) < (v' : Int)) = false := by simp; omega
      have q2 : decide ((v' : Int) < (v : Int)) = false := by simp; omega
      clear h1 h2 he
      go_wp2_with fail
      go_roundw
      case rel => exact ⟨.inr (.inr (.inl ⟨rfl, rfl, HE.out⟩)), Hb.out.alloc Hb.out.size _⟩
      case measure => simp [intOf]
    · subst ho
      subst hv
      have Hb := Lib.hid hb
      clear hb
      by_cases h1 : l.length < l'.length
      · have e1 : R = -1 := by rw [← HR0.out, cmpV_mk, if_neg (by omega), if_neg (by omega), if_neg (by omega), if_neg (by omega), if_pos h1]
        subst e1
        have q1 : decide (l.length < l'.length) = true := by simp; omega
        clear h1
        go_wp2_with fail
        go_ret
        exact ⟨rfl, BB.out.trans ((Hb.out.alloc Hb.out.size _).mono BB.out.size)⟩
      by_cases h2 : l'.length < l.length
      · have e1 : R = 1 := by rw [← HR0.out, cmpV_mk, if_neg (by omega), if_neg (by omega), if_neg (by omega), if_neg (by omega), if_neg h1, if_pos h2]
        subst e1
        have q1 : decide (l.length < l'.length) = false := by simp; omega
        have q2 : decide (l'.length < l.length) = true := by simp; omega
        clear h1 h2
        go_wp2_with fail
        go_ret
        exact ⟨rfl, BB.out.trans ((Hb.out.alloc Hb.out.size _).mono BB.out.size)⟩
      have he : l.length = l'.length := by omega
      have HE := Lib.hid he
      have q1 : decide (l.length < l'.length) = false := by simp; omega
      have q2 : decide (l'.length < l.length) = false := by simp; omega
      clear h1 h2 he
      go_wp2_with fail
      go_roundw
      case rel => exact ⟨.inr (.inr (.inr ⟨rfl, rfl, rfl, HE.out⟩)), Hb.out.alloc Hb.out.size _⟩
      case measure => simp [intOf]
    · subst ho
      subst hv
      have hR : cmpLV (l.drop 0) (l'.drop 0) = R := by
        rw [← HR0.out, cmpV_mk, if_neg (by omega), if_neg (by omega), if_neg (by omega), if_neg (by omega), if_neg (by omega), if_neg (by omega)]
        rfl
      have HR := Lib.hid hR
      have Hl := Lib.hid hl
      have d2 : wr.cell? ⟨w.heap.size, 2, none⟩ = some (.slice A l.length c) := (B1.out.below hb (by omega)).cell 2
      have HB := Lib.hid hb
      clear i0 i1 i2 hR hl hb
      go_wp2_with fail
      clear d2
      go_loopw [45] (fun i wz => ∃ k : Nat, k ≤ l.length ∧ i = .int .i64 k ∧ cmpLV (l.drop k) (l'.drop k) = R ∧ Below W.heap.size W wz) (fun i _ => l.length - (intOf i).toNat)
      case atStart => exact ⟨0, Nat.zero_le _, rfl, HR.out, HB.out⟩
      case round =>
        obtain ⟨k, hk, rfl, hp, hb⟩ := hrel
        by_cases hkl : k < l.length
        · obtain ⟨g, k0, AA, CC, rfl, c0, c1, c2, htr⟩ := (TT.out.bel hb).at k hkl
          obtain ⟨g', k0', BB', DD, rfl, c0', c1', c2', htr'⟩ := (TU.out.bel hb).at k (by have := Hl.out; simpa [← this] using hkl)
          have e2 := (B2.out.below hb SZ').alloc (Obj.cells #[.int .i64 (l[k]).op, .int .i64 (l[k]).val, .slice AA (l[k]).args.length CC] 30)
          have e3 := heap_alloc_new wr (Obj.cells #[.int .i64 (l[k]).op, .int .i64 (l[k]).val, .slice AA (l[k]).args.length CC] 30)
          have tr1 := htr.alloc (Obj.cells #[.int .i64 (l[k]).op, .int .i64 (l[k]).val, .slice AA (l[k]).args.length CC] 30)
          have tr2 := htr'.alloc (Obj.cells #[.int .i64 (l[k]).op, .int .i64 (l[k]).val, .slice AA (l[k]).args.length CC] 30)
          have u0 := (TU.out.bel hb).alloc (Obj.cells #[.int .i64 (l[k]).op, .int .i64 (l[k]).val, .slice AA (l[k]).args.length CC] 30)
          have hb2 := hb.alloc hb.size (Obj.cells #[.int .i64 (l[k]).op, .int .i64 (l[k]).val, .slice AA (l[k]).args.length CC] 30)
          have x1 : (0 : Int) ≤ (k : Int) := by omega
          have x3 : k < l'.length := by have := Hl.out; omega
          have x2 : (k : Int) < (l'.length : Int) := by omega
          simp only [Tm.args_mk] at c0 c1 c2 c0' c1' c2' tr1 tr2
          rw [cmpLV_drop hkl x3] at hp
          have HH := Lib.hid (And.intro e2 (And.intro e3 (And.intro tr1 (And.intro tr2 hb2))))
          have HC := Lib.hid (And.intro (cell_alloc (o := Obj.cells #[.int .i64 (l[k]).op, .int .i64 (l[k]).val, .slice AA (l[k]).args.length CC] 30) c0') (And.intro (cell_alloc (o := Obj.cells #[.int .i64 (l[k]).op, .int .i64 (l[k]).val, .slice AA (l[k]).args.length CC] 30) c1') (cell_alloc (o := Obj.cells #[.int .i64 (l[k]).op, .int .i64 (l[k]).val, .slice AA (l[k]).args.length CC] 30) c2')))
          have Hp := Lib.hid hp
          clear e2 e3 tr1 tr2 u0 hb2 hb htr htr' hp c0' c1' c2'
          go_wp2_with fail
          generalize wr.alloc (Obj.cells #[.int .i64 (l[k]).op, .int .i64 (l[k]).val, .slice AA (l[k]).args.length CC] 30) = W2 at *
          obtain ⟨e2, e3, tr1, tr2, hb2⟩ := HH.out
          obtain ⟨c0', c1', c2'⟩ := HC.out
          have HB2 := Lib.hid hb2
          have n0 : W2.cell? ⟨wr.heap.size, 0, none⟩ = some (.int .i64 (l[k]).op) := Blk.cell e3 0
          have n1 : W2.cell? ⟨wr.heap.size, 1, none⟩ = some (.int .i64 (l[k]).val) := Blk.cell e3 1
          have n2 : W2.cell? ⟨wr.heap.size, 2, none⟩ = some (.slice AA (l[k]).args.length CC) := Blk.cell e3 2
          have m2 : W2.cell? ⟨w.heap.size + 1, 2, none⟩ = some (.slice (some ⟨g', k0', none⟩) l'.length d) := e2.cell 2
          have G0 := cell_regrown n0
          have G1 := cell_regrown n1
          have G2 := cell_regrown n2
          have G3 := cell_regrown m2
          have G4 := cell_regrown c0'
          have G5 := cell_regrown c1'
          have G6 := cell_regrown c2'
          have hc : Hid (∀ n os, Calls Try.prog 88 #[.agg #[.int .i64 (l[k]).op, .int .i64 (l[k]).val, .slice AA (l[k]).args.length CC], .agg #[.int .i64 (l'[k]'x3).op, .int .i64 (l'[k]'x3).val, .slice BB' (l'[k]'x3).args.length DD]] (grow (redrawn W2 n) os) fun e w'' => e = .returned (.int .i64 (cmpV l[k] (l'[k]'x3))) ∧ ∃ p : Regrown, w'' = grow (redrawn W2 p.d) p.os) :=
            Lib.hid (fun n os => Calls.regrown_of (Hi.out _ (List.getElem_mem hkl) _ _ _ _ _ _ (tr1.bel (below_regrown W2 n os)) (tr2.bel (below_regrown W2 n os))))
          have hp2 := Hp.out
          clear e2 e3 tr1 tr2 hb2 HH HC Hp
          generalize cmpV l[k] (l'[k]'x3) = z at hc hp2
          by_cases hz : z = 0
          · subst hz
            rw [if_pos rfl] at hp2
            have Hp := Lib.hid hp2
            clear hp2
            refine wp_region_quiet_below (by assumption) (by kernel_rfl) ?_
            repeat (go_big_quiet_step (exact hc.out _ _))
            refine wpQuiet_nil ?_
            intro _ hw'
            obtain ⟨⟨dq, osq⟩, hw''⟩ := hw'
            subst hw''
            go_wp2_with fail
            go_roundw
            case rel => exact ⟨k + 1, by omega, by go_num, Hp.out, HB2.out.trans ((below_regrown W2 dq osq).mono HB2.out.size)⟩
            case measure => simp [intOf]; omega
          · rw [if_neg hz] at hp2
            subst hp2
            have q4 : (z != 0) = true := by simp [hz]
            refine wp_region_quiet_below (by assumption) (by kernel_rfl) ?_
            repeat (go_big_quiet_step (exact hc.out _ _))
            refine wpQuiet_nil ?_
            intro _ hw'
            obtain ⟨⟨dq, osq⟩, hw''⟩ := hw'
            subst hw''
            go_wp2_with fail
            go_ret
            exact ⟨rfl, BB.out.trans ((HB2.out.trans ((below_regrown W2 dq osq).mono HB2.out.size)).mono BB.out.size)⟩
        · have x2 : decide ((k : Int) < (l.length : Int)) = false := by simp; omega
          have Hb := Lib.hid hb
          rw [cmpLV_nil _ _ _ Hl.out (by omega)] at hp
          subst hp
          clear hb
          go_wp2_with fail
          go_ret
          exact ⟨rfl, BB.out.trans (Hb.out.mono BB.out.size)⟩
end Go.Proofs.Ytddiclnkfhldlaa
