/-
  The contracts of the comparisons of terms: Equal, Less and order of the reference, Equal, Less and compare of the program.
  Conditions: the terms lie in memory as a tree.
-/
import Derived.Test.YtddiclnkfhldlaaProg
import Derived.Test.YtddiclnkfhldlaaTr
import Derived.WalkKit
import Derived.WalkLawsBesides
import Derived.WalkSpells
import Derived.Outline
import Derived.Lib.Hide
import Derived.Lib.QuietBelow
import Derived.BigQuiet
import Derived.Deep.QuietTactic
namespace Go.Proofs.Ytddiclnkfhldlaa
open Go.RowKit Go.Sort
set_option linter.unusedVariables false
theorem follows_mixed : Try.prog.follows .mixedOrders = true := by kernel_rfl
theorem equT_mk (o v o' v' : Int) (l l' : List Tm) : equT (.mk o v l) (.mk o' v' l') = (decide (o = o') && decide (v = v') && decide (l.length = l'.length) && (cmpL l l' == .eq)) := by
  cases h : equT (.mk o v l) (.mk o' v' l')
  · rw [equT_false] at h
    have hl := cmpL_eq l (fun t _ => cmpT_eq t) l'
    cases hc : cmpL l l' == .eq
    · simp
    · have : l = l' := hl.1 (by simpa using hc)
      subst this
      simp
      intro h1 h2
      subst h1; subst h2
      exact h rfl
  · rw [equT_iff] at h
    injection h with h1 h2 h3
    subst h1; subst h2; subst h3
    have hl := (cmpL_eq l (fun t _ => cmpT_eq t) l).2 rfl
    simp [hl]
/-- The first k arguments are equal. -/
def Pre (l l' : List Tm) (k : Nat) : Prop := ∀ i, i < k → l[i]? = l'[i]?
theorem Pre.zero (l l' : List Tm) : Pre l l' 0 := fun i hi => absurd hi (by omega)
theorem Pre.succ {l l' : List Tm} {k : Nat} (h : Pre l l' k) (h1 : k < l.length) (h2 : k < l'.length) (he : equT l[k] l'[k] = true) : Pre l l' (k + 1) := by
  intro i hi
  rcases (by omega : i < k ∨ i = k) with hi | rfl
  · exact h i hi
  · rw [List.getElem?_eq_getElem h1, List.getElem?_eq_getElem h2, equT_iff.1 he]
theorem Pre.all {l l' : List Tm} {k : Nat} {o v : Int} (hl : l.length = l'.length) (hk : l.length ≤ k) (h : Pre l l' k) : equT (.mk o v l) (.mk o v l') = true := by
  have : l = l' := by
    apply List.ext_getElem?
    intro i
    by_cases hi : i < k
    · exact h i hi
    · rw [List.getElem?_eq_none (by omega), List.getElem?_eq_none (by omega)]
  rw [equT_iff, this]
theorem equT_not {l l' : List Tm} {k : Nat} {o v : Int} (h1 : k < l.length) (h2 : k < l'.length) (he : equT l[k] l'[k] = false) : equT (.mk o v l) (.mk o v l') = false := by
  rw [equT_false] at he ⊢
  intro h
  injection h with _ _ h
  subst h
  exact he rfl
theorem requal_any (t : Tm) : ∀ (u : Tm) (w : World) (A B : Option Addr) (c d : Nat), Tr w t A c → Tr w u B d →
    Calls Try.prog 14 #[.agg #[.int .i64 t.op, .int .i64 t.val, .slice A t.args.length c], .agg #[.int .i64 u.op, .int .i64 u.val, .slice B u.args.length d]] w fun e w' => e = .returned (.bool (equT t u)) ∧ Below w.heap.size w w' := by
  refine Tm.ind (P := fun t => ∀ (u : Tm) (w : World) (A B : Option Addr) (c d : Nat), Tr w t A c → Tr w u B d →
    Calls Try.prog 14 #[.agg #[.int .i64 t.op, .int .i64 t.val, .slice A t.args.length c], .agg #[.int .i64 u.op, .int .i64 u.val, .slice B u.args.length d]] w fun e w' => e = .returned (.bool (equT t u)) ∧ Below w.heap.size w w') ?_ t
  intro o v l ih u w A B c d ht hu
  obtain ⟨o', v', l'⟩ := u
  have f1 := ht.ofits
  have f2 := hu.ofits
  simp only [Tm.op_mk, Tm.val_mk, Tm.args_mk] at f1 f2 ⊢
  unfold fits maxLen at f1 f2
  by_cases ho : o = o'
  · subst ho
    by_cases hv : v = v'
    · subst hv
      by_cases hl : l.length = l'.length
      · have Hi := Lib.hid ih
        have Hl := Lib.hid hl
        have q1 : (o != o) = false := by simp
        have q2 : (v != v) = false := by simp
        have q3 : (((l.length : Nat) : Int) != ((l'.length : Nat) : Int)) = false := by simp [hl]
        have k1 := heap_alloc_new w (Obj.cells #[.int .i64 o, .int .i64 v, .slice A l.length c] 30)
        have k2 := heap_alloc_new (w.alloc (Obj.cells #[.int .i64 o, .int .i64 v, .slice A l.length c] 30)) (Obj.cells #[.int .i64 o, .int .i64 v, .slice B l'.length d] 30)
        have b1 : Blk ((w.alloc (Obj.cells #[.int .i64 o, .int .i64 v, .slice A l.length c] 30)).alloc (Obj.cells #[.int .i64 o, .int .i64 v, .slice B l'.length d] 30)) w.heap.size 30 #[.int .i64 o, .int .i64 v, .slice A l.length c] := Blk.alloc k1 _
        have b2 : Blk ((w.alloc (Obj.cells #[.int .i64 o, .int .i64 v, .slice A l.length c] 30)).alloc (Obj.cells #[.int .i64 o, .int .i64 v, .slice B l'.length d] 30)) (w.heap.size + 1) 30 #[.int .i64 o, .int .i64 v, .slice B l'.length d] := by
          have := k2
          simp only [World.size_alloc] at this
          exact this
        have tt := (ht.alloc (Obj.cells #[.int .i64 o, .int .i64 v, .slice A l.length c] 30)).alloc (Obj.cells #[.int .i64 o, .int .i64 v, .slice B l'.length d] 30)
        have tu := (hu.alloc (Obj.cells #[.int .i64 o, .int .i64 v, .slice A l.length c] 30)).alloc (Obj.cells #[.int .i64 o, .int .i64 v, .slice B l'.length d] 30)
        have bb : Below w.heap.size w ((w.alloc (Obj.cells #[.int .i64 o, .int .i64 v, .slice A l.length c] 30)).alloc (Obj.cells #[.int .i64 o, .int .i64 v, .slice B l'.length d] 30)) := ((Below.refl _ _).alloc (Nat.le_refl _) _).alloc (by simp) _
        have sz : w.heap.size + 1 < ((w.alloc (Obj.cells #[.int .i64 o, .int .i64 v, .slice A l.length c] 30)).alloc (Obj.cells #[.int .i64 o, .int .i64 v, .slice B l'.length d] 30)).heap.size := by simp
        clear k1 k2 ih hl ht hu
        have B1 := Lib.hid b1
        have B2 := Lib.hid b2
        have TT := Lib.hid tt
        have TU := Lib.hid tu
        have BB := Lib.hid bb
        have SZ := Lib.hid sz
        clear b1 b2 tt tu bb sz
        have hm := follows_mixed
        go_enter Try.func14, Try.ntmps14
        go_wp2_with fail
        generalize (w.alloc (Obj.cells #[.int .i64 o, .int .i64 v, .slice A l.length c] 30)).alloc (Obj.cells #[.int .i64 o, .int .i64 v, .slice B l'.length d] 30) = W at *
        go_loopw [5] (fun i wr => ∃ k : Nat, k ≤ l.length ∧ i = .int .i64 k ∧ Pre l l' k ∧ Below W.heap.size W wr) (fun i _ => l.length - (intOf i).toNat)
        case atStart => exact ⟨0, Nat.zero_le _, rfl, Pre.zero _ _, Below.refl _ _⟩
        case round =>
          obtain ⟨k, hk, rfl, hp, hb⟩ := hrel
          have SZ' := SZ.out
          have d2 : wr.cell? ⟨w.heap.size, 2, none⟩ = some (.slice A l.length c) := (B1.out.below hb (by omega)).cell 2
          have e2 : wr.cell? ⟨w.heap.size + 1, 2, none⟩ = some (.slice B l'.length d) := (B2.out.below hb SZ').cell 2
          by_cases hkl : k < l.length
          · obtain ⟨g, k0, AA, CC, rfl, c0, c1, c2, htr⟩ := (TT.out.bel hb).at k hkl
            obtain ⟨g', k0', BB', DD, rfl, c0', c1', c2', htr'⟩ := (TU.out.bel hb).at k (by have := Hl.out; simpa [← this] using hkl)
            have x1 : (0 : Int) ≤ (k : Int) := by omega
            have x3 : k < l'.length := by have := Hl.out; omega
            have x2 : (k : Int) < (l'.length : Int) := by omega
            simp only [Tm.args_mk] at c0 c1 c2 c0' c1' c2' htr htr'
            have G2 := cell_regrown d2
            have G3 := cell_regrown e2
            have G4 := cell_regrown c0
            have G5 := cell_regrown c1
            have G6 := cell_regrown c2
            have G7 := cell_regrown c0'
            have G8 := cell_regrown c1'
            have G9 := cell_regrown c2'
            have HC : Hid (∀ n os, Calls Try.prog 14 #[.agg #[.int .i64 (l[k]).op, .int .i64 (l[k]).val, .slice AA (l[k]).args.length CC], .agg #[.int .i64 (l'[k]'x3).op, .int .i64 (l'[k]'x3).val, .slice BB' (l'[k]'x3).args.length DD]] (grow (redrawn wr n) os) fun e w'' => e = .returned (.bool (equT l[k] (l'[k]'x3))) ∧ ∃ p : Regrown, w'' = grow (redrawn wr p.d) p.os) :=
              Lib.hid (fun n os => Calls.regrown_of (Hi.out _ (List.getElem_mem hkl) _ _ _ _ _ _ (htr.bel (below_regrown wr n os)) (htr'.bel (below_regrown wr n os))))
            have Hb := Lib.hid hb
            have Hp := Lib.hid hp
            clear htr htr' hb hp
            by_cases he : equT l[k] (l'[k]'x3) = true
            · rw [he] at HC
              have HE := Lib.hid he
              clear he
              go_wp2_with fail
              refine wp_region_quiet_below (by assumption) (by kernel_rfl) ?_
              repeat (go_big_quiet_step (exact HC.out _ _))
              refine wpQuiet_nil ?_
              intro _ hw'
              obtain ⟨⟨dq, osq⟩, hw''⟩ := hw'
              subst hw''
              go_wp2_with fail
              go_roundw
              case rel => exact ⟨k + 1, by omega, by go_num, Hp.out.succ hkl x3 HE.out, Hb.out.trans ((below_regrown wr dq osq).mono Hb.out.size)⟩
              case measure => simp [intOf]; omega
            · have he' : equT l[k] (l'[k]'x3) = false := by simpa using he
              rw [he'] at HC
              have HE := Lib.hid he'
              clear he he'
              go_wp2_with fail
              refine wp_region_quiet_below (by assumption) (by kernel_rfl) ?_
              repeat (go_big_quiet_step (exact HC.out _ _))
              refine wpQuiet_nil ?_
              intro _ hw'
              obtain ⟨⟨dq, osq⟩, hw''⟩ := hw'
              subst hw''
              go_wp2_with fail
              go_ret
              refine ⟨ret_bool (equT_not hkl x3 HE.out).symm, BB.out.trans ((Hb.out.trans ((below_regrown wr dq osq).mono Hb.out.size)).mono BB.out.size)⟩
          · have x2 : decide ((k : Int) < (l.length : Int)) = false := by simp; omega
            have Hb := Lib.hid hb
            have Hp := Lib.hid hp
            clear hb hp
            go_wp2_with fail
            go_ret
            exact ⟨ret_bool (Pre.all Hl.out (by omega) Hp.out).symm, BB.out.trans (Hb.out.mono BB.out.size)⟩
      · have e1 : equT (.mk o v l) (.mk o v l') = false := by rw [equT_mk]; simp [hl]
        rw [e1]
        have q3 : (((l.length : Nat) : Int) != ((l'.length : Nat) : Int)) = true := by simp; omega
        have Hi := Lib.hid ih
        have Ht := Lib.hid ht
        have Hu := Lib.hid hu
        clear ih ht hu e1
        go_enter Try.func14, Try.ntmps14
        go_wp2_with fail
        go_ret
        exact ⟨rfl, ((Below.refl _ _).alloc (Nat.le_refl _) _).alloc (by simp) _⟩
    · have e1 : equT (.mk o v l) (.mk o v' l') = false := by rw [equT_mk]; simp [hv]
      rw [e1]
      have q1 : (o != o) = false := by simp
      have q2 : (v != v') = true := by simp [hv]
      have Hi := Lib.hid ih
      have Ht := Lib.hid ht
      have Hu := Lib.hid hu
      clear ih ht hu e1
      go_enter Try.func14, Try.ntmps14
      go_wp2_with fail
      go_ret
      exact ⟨rfl, ((Below.refl _ _).alloc (Nat.le_refl _) _).alloc (by simp) _⟩
  · have e1 : equT (.mk o v l) (.mk o' v' l') = false := by rw [equT_mk]; simp [ho]
    rw [e1]
    have q1 : (o != o') = true := by simp [ho]
    have Hi := Lib.hid ih
    have Ht := Lib.hid ht
    have Hu := Lib.hid hu
    clear ih ht hu e1
    go_enter Try.func14, Try.ntmps14
    go_wp2_with fail
    go_ret
    exact ⟨rfl, ((Below.refl _ _).alloc (Nat.le_refl _) _).alloc (by simp) _⟩
end Go.Proofs.Ytddiclnkfhldlaa
