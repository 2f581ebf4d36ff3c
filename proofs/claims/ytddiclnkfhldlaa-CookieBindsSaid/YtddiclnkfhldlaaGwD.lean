/-
  The contracts of Rules and New, one behind the other.
  Conditions: none.
-/
import Derived.Test.YtddiclnkfhldlaaGwNA
import Derived.Test.YtddiclnkfhldlaaGwNB
import Derived.Test.YtddiclnkfhldlaaGwNC
import Derived.Test.YtddiclnkfhldlaaGwND
import Derived.Test.YtddiclnkfhldlaaGwNE
import Derived.Test.YtddiclnkfhldlaaGwNF
import Derived.Test.YtddiclnkfhldlaaGwNG
import Derived.Test.YtddiclnkfhldlaaMuD
namespace Go.Proofs.Ytddiclnkfhldlaa
namespace Ab
open Go.RowKit
set_option linter.unusedVariables false
section
variable {q : Ls} {ga : Nat} {row : Array Value} {hl : Bool}
def V1 : Nat → Value := fun _ => .bool true
theorem V1_one (i : Nat) : (V1 i).oneCell' = true := rfl
/-- The values here. -/
abbrev VG (q : Ls) (ga : Nat) (row : Array Value) : Nat → Value := vL V1 q ga row 0 0
/-- The choices' row lies here. -/
def RowIn (hl : Bool) (ga : Nat) (row : Array Value) (w : World) : Prop := hl = true → MBlk w ga 5 row
theorem mm_mem1 {E : Env} {x : MM} (h : mmOK E x = true) : ∀ y ∈ [x], mmOK E y = true := fun y hy => by
  rw [List.mem_singleton.1 hy]
  exact h
theorem extB_ok {V0 : Nat → Value} {b p : Nat} {i0 i1 : Nat} (hL : LsOK hl q ga row) (h1 : ∀ i, (V0 i).oneCell' = true) : CallOK Try.prog (vL V0 q ga row b p) (extB hl i0 i1) :=
  orE_ok (nextW_ok hL) (tagE_ok hL h1)
theorem names_all : ∀ x ∈ [mName sGold, mName sSilver], mmOK envZ x = true := fun x hx => by
  simp only [List.mem_cons, List.not_mem_nil, or_false] at hx
  rcases hx with rfl | rfl
  · exact rNameG
  · exact rNameS
theorem extNw_ok {V : Nat → Value} (h1 : ∀ i, (V i).oneCell' = true) : CallOK Try.prog V extNw :=
  orE_ok (checkE_ok h1) (mmE_ok (envZ_ok h1).1 (envZ_ok h1).2 names_all)
theorem envNw_ok {V : Nat → Value} (h1 : ∀ i, (V i).oneCell' = true) : EnvOK Try.prog V envNw ∧ ExtOK Try.prog V envNw := envX_ok h1 (extNw_ok h1)
/-- The choices alone, from memory. -/
theorem rep_start (hL : LsOK hl q ga row) {w : World} {g p : Nat} (hC : Cod w g q p) (hB : RowIn hl ga row w) (hne : hl = true → ga ≠ g) :
    ∃ ρ, Rep (VG q ga row) ρ (sC hl) w ∧ Clean ρ (sC hl) ∧ ρ.blk 0 = some g ∧ ∀ i b, ρ.blk i = some b → b = g ∨ (hl = true ∧ b = ga) := by
  have hcs : MBlk w g 84 #[.slice q.A q.n q.cap, .int .i64 (p : Nat)] := hC.2.2.1
  have code : ∀ ρ', BR (VG q ga row) ρ' g ⟨84, [], some (900, 0)⟩ #[.slice q.A q.n q.cap, .int .i64 (p : Nat)] := fun ρ' => ⟨[], _, by simp; rfl, trivial, rfl, pb_some hC.1⟩
  cases hl with
  | false =>
    refine ⟨⟨fun i => if i = 0 then some g else none, fun _ => none⟩, ⟨?_, ?_, ?_, ?_⟩, ⟨fun i hi => ?_, fun _ _ => rfl⟩, rfl, fun i b h => ?_⟩
    · intro i B h
      simp only [sC, cond_false, look_cons] at h
      by_cases e : 0 = i
      · rw [if_pos e, Option.some.injEq] at h
        subst h
        subst e
        exact ⟨g, _, rfl, hcs, code _⟩
      · rw [if_neg e] at h
        cases h
    · intro i j B C b hi hj h1 h2
      simp only at h1 h2
      split at h1
      · rename_i e
        split at h2
        · rename_i e'
          omega
        · cases h2
      · cases h1
    · intro i b h
      simp only at h
      split at h
      · injection h with h
        subst h
        exact hC.lt
      · cases h
    · intro i B h
      simp only [sC, cond_false, look_cons] at h
      by_cases e : 0 = i
      · subst e
        simp [sC]
      · rw [if_neg e] at h
        cases h
    · simp only [sC] at hi
      show (if i = 0 then _ else _) = _
      rw [if_neg (by omega)]
    · simp only at h
      split at h
      · injection h with h
        exact .inl h.symm
      · cases h
  | true =>
    have hrow := hB rfl
    refine ⟨⟨fun i => if i = 0 then some g else if i = 1 then some ga else none, fun _ => none⟩, ⟨?_, ?_, ?_, ?_⟩, ⟨fun i hi => ?_, fun _ _ => rfl⟩, rfl, fun i b h => ?_⟩
    · intro i B h
      simp only [sC, cond_true, look_cons] at h
      by_cases e : 0 = i
      · rw [if_pos e, Option.some.injEq] at h
        subst h
        subst e
        exact ⟨g, _, rfl, hcs, code _⟩
      · rw [if_neg e] at h
        by_cases e1 : 1 = i
        · rw [if_pos e1, Option.some.injEq] at h
          subst h
          subst e1
          exact ⟨ga, row, rfl, hrow, [], _, by simp; rfl, trivial, rfl, .inl rfl⟩
        · rw [if_neg e1] at h
          cases h
    · intro i j B C b hi hj h1 h2
      simp only at h1 h2
      have := hne rfl
      by_cases i0 : i = 0
      · by_cases j0 : j = 0
        · omega
        · rw [if_pos i0] at h1
          rw [if_neg j0] at h2
          split at h2
          · injection h1 with h1
            injection h2 with h2
            exact absurd (h2.trans h1.symm) this
          · cases h2
      · rw [if_neg i0] at h1
        split at h1
        · rename_i e1
          by_cases j0 : j = 0
          · rw [if_pos j0] at h2
            injection h1 with h1
            injection h2 with h2
            exact absurd (h1.trans h2.symm) this
          · rw [if_neg j0] at h2
            split at h2
            · omega
            · cases h2
        · cases h1
    · intro i b h
      simp only at h
      split at h
      · injection h with h
        subst h
        exact hC.lt
      · split at h
        · injection h with h
          subst h
          exact hrow.lt
        · cases h
    · intro i B h
      simp only [sC, cond_true, look_cons] at h
      by_cases e : 0 = i
      · subst e
        simp [sC]
      · rw [if_neg e] at h
        by_cases e1 : 1 = i
        · subst e1
          simp [sC]
        · rw [if_neg e1] at h
          cases h
    · simp only [sC] at hi
      show (if i = 0 then _ else if i = 1 then _ else _) = _
      rw [if_neg (by omega), if_neg (by omega)]
    · simp only at h
      split at h
      · injection h with h
        exact .inl h.symm
      · split at h
        · injection h with h
          exact .inr ⟨rfl, h.symm⟩
        · cases h
theorem f2_at {V : Nat → Value} {ρ : Rho} : ∀ {l : List AC} {m : List Value}, F2 (CR V ρ) l m → ∀ (i : Nat) {x : AC}, l[i]? = some x → ∃ z, m[i]? = some z ∧ CR V ρ x z
  | y :: l, v :: m, h, 0, x, hx => by
    injection hx with hx
    subst hx
    exact ⟨v, rfl, h.1⟩
  | y :: l, v :: m, h, i + 1, x, hx => by
    obtain ⟨z, h1, h2⟩ := f2_at h.2 i (x := x) hx
    exact ⟨z, h1, h2⟩
  | [], _, _, i, x, hx => by cases hx
  | _ :: _, [], h, _, _, _ => h.elim
theorem f2_one {V : Nat → Value} (h1 : ∀ i, (V i).oneCell' = true) {ρ : Rho} : ∀ {l : List AC} {m : List Value}, F2 (CR V ρ) l m → ∀ v ∈ m, v.oneCell' = true
  | y :: l, v :: m, h, u, hu => by
    rcases List.mem_cons.1 hu with rfl | hu
    · exact CR.one V h1 h.1
    · exact f2_one h1 h.2 u hu
  | _, [], _, u, hu => by cases hu
  | [], _ :: _, h, _, _ => h.elim
/-- A value that Rules has made; its memory lies from block B on. -/
def RulesOK (hl : Bool) (side : Int) (q : Ls) (ga : Nat) (row : Array Value) (g B : Nat) (w : World) (v : Value) : Prop :=
  ∃ l, rulesOut hl side = some l ∧ ∃ x ∈ l, ∃ ρ, Rep (VG q ga row) ρ x.2 w ∧ Clean ρ x.2 ∧ VR (VG q ga row) ρ x.1 v ∧ ∀ i b, ρ.blk i = some b → B ≤ b ∨ b = g ∨ (hl = true ∧ b = ga)
theorem rulesOK_below {side : Int} {g B : Nat} {w w' : World} {v : Value} (h : RulesOK hl side q ga row g B w v) (hb : RowKit.Below w.heap.size w w') : RulesOK hl side q ga row g B w' v := by
  obtain ⟨l, h1, x, h2, ρ, h3, h4, h5, h6⟩ := h
  exact ⟨l, h1, x, h2, ρ, (goes_keep h3 hb).1, h4, h5, h6⟩
/-- What codes a state tells, from memory. -/
theorem codes_back (hL : LsOK hl q ga row) {ρ : Rho} {s : St} {w : World} (hr : Rep (VG q ga row) ρ s w) (h : codesIn hl 0 1 s 900 = true) {g : Nat} (hg : ρ.blk 0 = some g) : ∃ p, Cod w g q p := by
  obtain ⟨c0, c1⟩ := codesIn_ok h
  obtain ⟨g', p', e, hC⟩ := rep_some hL hr c0 c1
  rw [hg] at e
  injection e with e
  subst e
  exact ⟨p', hC⟩
theorem rules_on (hl : Bool) {side : Int} (hs : side = 0 ∨ side = 1) : ∃ l, rulesOut hl side = some l ∧ l.length ≤ 28 ∧ ∀ x ∈ l, onC hl x.2 = true ∧ noIntH x.2.heap = true := by
  have key := rules_ck hl hs
  unfold rulesCk at key
  split at key
  · rename_i l hl'
    simp only [Bool.and_eq_true] at key
    refine ⟨l, hl', Nat.le_of_ble_eq_true key.1, fun x hx => ?_⟩
    have := List.all_eq_true.1 key.2 x hx
    simp only [Bool.and_eq_true] at this
    exact this
  · cases key
theorem newsOK_at {hl : Bool} {side : Int} {a : Nat} (h : newsOK hl side a = true) {l : List (AV × St)} (hl' : rulesOut hl side = some l) {x : AV × St} {i : Nat} (hi : l[i]? = some x) (h1 : a ≤ i) (h2 : i < a + 2) : newOK side 1 x = true ∧ newOK side 2 x = true := by
  unfold newsOK at h
  rw [hl'] at h
  simp only at h
  have hm : x ∈ (l.drop a).take 2 := by
    refine List.mem_iff_getElem?.2 ⟨i - a, ?_⟩
    rw [List.getElem?_take, if_pos (by omega), List.getElem?_drop]
    rw [show a + (i - a) = i by omega]
    exact hi
  have := List.all_eq_true.1 h x hm
  simp only [Bool.and_eq_true] at this
  exact this
theorem news_all (hl : Bool) {side : Int} (hs : side = 0 ∨ side = 1) {l : List (AV × St)} (h : rulesOut hl side = some l) : ∀ x ∈ l, newOK side 1 x = true ∧ newOK side 2 x = true := by
  obtain ⟨l', e, hlen, _⟩ := rules_on hl hs
  rw [h] at e
  injection e with e
  subst e
  intro x hx
  obtain ⟨i, hi⟩ := List.mem_iff_getElem?.1 hx
  have hil : i < l.length := (List.getElem?_eq_some_iff.1 hi).1
  rcases (by omega : ((0 ≤ i) ∧ i < 0 + 2) ∨ ((2 ≤ i) ∧ i < 2 + 2) ∨ ((4 ≤ i) ∧ i < 4 + 2) ∨ ((6 ≤ i) ∧ i < 6 + 2) ∨ ((8 ≤ i) ∧ i < 8 + 2) ∨ ((10 ≤ i) ∧ i < 10 + 2) ∨ ((12 ≤ i) ∧ i < 12 + 2) ∨ ((14 ≤ i) ∧ i < 14 + 2) ∨ ((16 ≤ i) ∧ i < 16 + 2) ∨ ((18 ≤ i) ∧ i < 18 + 2) ∨ ((20 ≤ i) ∧ i < 20 + 2) ∨ ((22 ≤ i) ∧ i < 22 + 2) ∨ ((24 ≤ i) ∧ i < 24 + 2) ∨ ((26 ≤ i) ∧ i < 26 + 2)) with ⟨h1, h2⟩ | ⟨h1, h2⟩ | ⟨h1, h2⟩ | ⟨h1, h2⟩ | ⟨h1, h2⟩ | ⟨h1, h2⟩ | ⟨h1, h2⟩ | ⟨h1, h2⟩ | ⟨h1, h2⟩ | ⟨h1, h2⟩ | ⟨h1, h2⟩ | ⟨h1, h2⟩ | ⟨h1, h2⟩ | ⟨h1, h2⟩
  · rcases hs with rfl | rfl <;> cases hl
    · exact newsOK_at rNews_f0_0 h hi h1 h2
    · exact newsOK_at rNews_t0_0 h hi h1 h2
    · exact newsOK_at rNews_f1_0 h hi h1 h2
    · exact newsOK_at rNews_t1_0 h hi h1 h2
  · rcases hs with rfl | rfl <;> cases hl
    · exact newsOK_at rNews_f0_2 h hi h1 h2
    · exact newsOK_at rNews_t0_2 h hi h1 h2
    · exact newsOK_at rNews_f1_2 h hi h1 h2
    · exact newsOK_at rNews_t1_2 h hi h1 h2
  · rcases hs with rfl | rfl <;> cases hl
    · exact newsOK_at rNews_f0_4 h hi h1 h2
    · exact newsOK_at rNews_t0_4 h hi h1 h2
    · exact newsOK_at rNews_f1_4 h hi h1 h2
    · exact newsOK_at rNews_t1_4 h hi h1 h2
  · rcases hs with rfl | rfl <;> cases hl
    · exact newsOK_at rNews_f0_6 h hi h1 h2
    · exact newsOK_at rNews_t0_6 h hi h1 h2
    · exact newsOK_at rNews_f1_6 h hi h1 h2
    · exact newsOK_at rNews_t1_6 h hi h1 h2
  · rcases hs with rfl | rfl <;> cases hl
    · exact newsOK_at rNews_f0_8 h hi h1 h2
    · exact newsOK_at rNews_t0_8 h hi h1 h2
    · exact newsOK_at rNews_f1_8 h hi h1 h2
    · exact newsOK_at rNews_t1_8 h hi h1 h2
  · rcases hs with rfl | rfl <;> cases hl
    · exact newsOK_at rNews_f0_10 h hi h1 h2
    · exact newsOK_at rNews_t0_10 h hi h1 h2
    · exact newsOK_at rNews_f1_10 h hi h1 h2
    · exact newsOK_at rNews_t1_10 h hi h1 h2
  · rcases hs with rfl | rfl <;> cases hl
    · exact newsOK_at rNews_f0_12 h hi h1 h2
    · exact newsOK_at rNews_t0_12 h hi h1 h2
    · exact newsOK_at rNews_f1_12 h hi h1 h2
    · exact newsOK_at rNews_t1_12 h hi h1 h2
  · rcases hs with rfl | rfl <;> cases hl
    · exact newsOK_at rNews_f0_14 h hi h1 h2
    · exact newsOK_at rNews_t0_14 h hi h1 h2
    · exact newsOK_at rNews_f1_14 h hi h1 h2
    · exact newsOK_at rNews_t1_14 h hi h1 h2
  · rcases hs with rfl | rfl <;> cases hl
    · exact newsOK_at rNews_f0_16 h hi h1 h2
    · exact newsOK_at rNews_t0_16 h hi h1 h2
    · exact newsOK_at rNews_f1_16 h hi h1 h2
    · exact newsOK_at rNews_t1_16 h hi h1 h2
  · rcases hs with rfl | rfl <;> cases hl
    · exact newsOK_at rNews_f0_18 h hi h1 h2
    · exact newsOK_at rNews_t0_18 h hi h1 h2
    · exact newsOK_at rNews_f1_18 h hi h1 h2
    · exact newsOK_at rNews_t1_18 h hi h1 h2
  · rcases hs with rfl | rfl <;> cases hl
    · exact newsOK_at rNews_f0_20 h hi h1 h2
    · exact newsOK_at rNews_t0_20 h hi h1 h2
    · exact newsOK_at rNews_f1_20 h hi h1 h2
    · exact newsOK_at rNews_t1_20 h hi h1 h2
  · rcases hs with rfl | rfl <;> cases hl
    · exact newsOK_at rNews_f0_22 h hi h1 h2
    · exact newsOK_at rNews_t0_22 h hi h1 h2
    · exact newsOK_at rNews_f1_22 h hi h1 h2
    · exact newsOK_at rNews_t1_22 h hi h1 h2
  · rcases hs with rfl | rfl <;> cases hl
    · exact newsOK_at rNews_f0_24 h hi h1 h2
    · exact newsOK_at rNews_t0_24 h hi h1 h2
    · exact newsOK_at rNews_f1_24 h hi h1 h2
    · exact newsOK_at rNews_t1_24 h hi h1 h2
  · rcases hs with rfl | rfl <;> cases hl
    · exact newsOK_at rNews_f0_26 h hi h1 h2
    · exact newsOK_at rNews_t0_26 h hi h1 h2
    · exact newsOK_at rNews_f1_26 h hi h1 h2
    · exact newsOK_at rNews_t1_26 h hi h1 h2
/-- Rules. -/
theorem rules_any (hL : LsOK hl q ga row) {w : World} {g p : Nat} (hC : Cod w g q p) (hB : RowIn hl ga row w) (hne : hl = true → ga ≠ g) {side : Int} (hs : side = 0 ∨ side = 1) :
    Calls Try.prog 40 #[.pointer (some ⟨g, 0, none⟩), .int .i64 side] w fun e w' => ∃ v, e = .returned v ∧ RulesOK hl side q ga row g w.heap.size w' v ∧ (∃ p', Cod w' g q p') ∧ w.grownBy w' (some g) ∧ RowIn hl ga row w' := by
  obtain ⟨ρ, h1, h2, h3, h4⟩ := rep_start hL hC hB hne
  obtain ⟨l, hl1, _, hl2'⟩ := rules_on hl hs
  have hl2 : ∀ x ∈ l, onC hl x.2 = true := fun x hx => (hl2' x hx).1
  have hX := envX_ok (vL_one V1_one 0 0) (extB_ok (b := 0) (p := 0) (i0 := 0) (i1 := 1) hL V1_one)
  have hv : F2 (VR (VG q ga row) ρ) (argC [litI side]) #[.pointer (some ⟨g, 0, none⟩), .int .i64 side].toList := ⟨⟨g, h3, rfl⟩, rfl, trivial⟩
  have hl1' := hl1
  unfold rulesOut at hl1'
  refine (runM_ok hX.1 hX.2 hl1' rfl hv h1 h2).mono ?_
  rintro e w' ⟨x, hx, c, ρ', rfl, hg, hc⟩
  have hon := hl2 x hx
  simp only [onC, Bool.and_eq_true] at hon
  have hd : ∀ j ∈ x.2.dirty, j = 0 := fun j hj => Nat.eq_of_beq_eq_true (List.all_eq_true.1 hon.2 j hj)
  have h0 : ρ'.blk 0 = some g := by
    rw [hg.2.1.blk 0 (.inl (by simp [sC]))]
    exact h3
  have hgr : w.grownBy w' (some g) := ⟨hg.2.1.os, hg.2.1.tape, hg.2.1.out, hg.2.1.size, fun i hi hne => hg.2.1.fr i hi (fun j hj _ => by
    rw [hd j hj, h3]
    exact fun e => hne (by injection e with e; rw [e]))⟩
  refine ⟨c, rfl, ⟨l, hl1, x, hx, ρ', hg.1, h2.goes hg, hc, fun i b hb => ?_⟩, codes_back hL hg.1 hon.1 h0, hgr, fun e => (hB e).grown hgr (fun e' => hne e (by injection e'))⟩
  by_cases hi : i < (sC hl).next ∨ x.2.next ≤ i
  · rw [hg.2.1.blk i hi] at hb
    exact .inr (h4 i b hb)
  · rcases hg.2.1.new i b (by omega) (by omega) hb with h | ⟨j, hj, _, hjb⟩
    · exact .inl h
    · rw [hd j hj, h3] at hjb
      injection hjb with hjb
      exact .inr (.inl hjb.symm)
/-- The cells of a gateway that is new. -/
def GwV (id : Int) (cs : Array Value) : Prop := ∀ V ρ, F2 (CR V ρ) (gwI id) cs.toList
/-- Cells that say the same whatever the symbols and places. -/
def plainC : AC → Bool
  | .int _ _ => true
  | .bool _ => true
  | .any => true
  | .num _ => true
  | .bo => true
  | .slice none _ (.lit _) => true
  | _ => false
theorem plain_c {V V' : Nat → Value} {ρ ρ' : Rho} {x : AC} {v : Value} (h : plainC x = true) (hx : CR V ρ x v) : CR V' ρ' x v := by
  unfold plainC at h
  split at h
  · exact hx
  · exact hx
  · exact hx
  · exact hx
  · exact hx
  · obtain ⟨m, h1, h2, h3⟩ := hx
    exact ⟨m, h1, h2, h3⟩
  · cases h
theorem plain_l {V V' : Nat → Value} {ρ ρ' : Rho} : ∀ {l : List AC} {m : List Value}, l.all plainC = true → F2 (CR V ρ) l m → F2 (CR V' ρ') l m
  | [], [], _, _ => trivial
  | x :: r, y :: s, h, hx => by
    simp only [List.all_cons, Bool.and_eq_true] at h
    exact ⟨plain_c h.1 hx.1, plain_l h.2 hx.2⟩
  | [], _ :: _, _, h => h.elim
  | _ :: _, [], _, h => h.elim
theorem nums_f2 {V : Nat → Value} {ρ : Rho} : ∀ (l : List Int), F2 (CR V ρ) (nums l.length) (l.map (Value.int .i64))
  | [] => trivial
  | x :: l => ⟨⟨x, rfl⟩, nums_f2 l⟩
theorem look_mem : ∀ {H : List (Nat × Blk)} {i : Nat} {B : Blk}, look H i = some B → (i, B) ∈ H
  | x :: r, i, B, h => by
    rw [look_cons] at h
    by_cases e : x.1 = i
    · rw [if_pos e, Option.some.injEq] at h
      rw [← e, ← h]
      exact List.mem_cons_self
    · rw [if_neg e] at h
      exact List.mem_cons_of_mem _ (look_mem h)
theorem rules_ty (hl : Bool) {side : Int} (hs : side = 0 ∨ side = 1) {l : List (AV × St)} (h : rulesOut hl side = some l) : ∀ x ∈ l, ∀ i C, look x.2.heap i = some C → C.ty ≠ 3 := by
  obtain ⟨l', e, _, key⟩ := rules_on hl hs
  rw [h] at e
  injection e with e
  subst e
  intro x hx i C hC e
  have h2 := List.all_eq_true.1 (key x hx).2 _ (look_mem hC)
  rw [e, Nat.beq_refl] at h2
  cases h2
/-- New. -/
theorem new_gw {id : Int} (hid : id = 0 ∨ id = 1) {g B : Nat} {w : World} {v : Value} (hR : RulesOK hl id q ga row g B w v) {gg : Nat} {l : List Int} (hl2 : l.length = 1 ∨ l.length = 2) (hb : MBlk w gg 3 (l.map (Value.int .i64)).toArray) :
    Calls Try.prog 39 #[.int .i64 id, .int .i64 (1 + id), .int .i64 (2 - id), v, .slice (some ⟨gg, 0, none⟩) l.length l.length] w fun e w' => ∃ cs, e = .returned (.tuple #[.agg cs, .int .i64 0]) ∧ GwV id cs ∧ RowKit.Below w.heap.size w w' := by
  obtain ⟨l0, h1, x, h2, ρ, h3, h4, h5, h6⟩ := hR
  obtain ⟨n1, n2⟩ := news_all hl hid h1 x h2
  have hnew : newOK id l.length x = true := by
    rcases hl2 with e | e
    · rw [e]
      exact n1
    · rw [e]
      exact n2
  have HN := Lib.hid hnew
  have hty := rules_ty hl hid h1 x h2
  clear hnew n1 n2 h1 h2
  have hfar : ∀ i C, look x.2.heap i = some C → ρ.blk i ≠ some gg := fun i C hC e => by
    obtain ⟨b, cs, k1, k2, _⟩ := h3.h i C hC
    rw [e] at k1
    injection k1 with k1
    subst k1
    unfold MBlk Go.Proofs.Ytddiclnkfhldlaa.Blk at hb
    rw [hb] at k2
    injection k2 with k2
    injection k2 with _ k2
    exact hty i C hC k2.symm
  have hle : Le ρ (ρ.setB x.2.next gg) := setB_le (h4.b _ (Nat.le_refl _))
  have hbl : ∀ j, (ρ.setB x.2.next gg).blk j = if j = x.2.next then some gg else ρ.blk j := fun _ => rfl
  have hr : Rep (VG q ga row) (ρ.setB x.2.next gg) (stN l.length x.2) w := by
    refine ⟨fun i C hC => ?_, fun i j C D b hC hD e1 e2 => ?_, fun i b e => ?_, fun i C hC => ?_⟩
    · simp only [stN, look_cons] at hC
      by_cases e : x.2.next = i
      · rw [if_pos e, Option.some.injEq] at hC
        subst hC
        exact ⟨gg, _, by rw [hbl, if_pos e.symm], hb, _, [], by simp, nums_f2 l, rfl⟩
      · rw [if_neg e] at hC
        obtain ⟨b, cs, k1, k2, pre, post, k3, k4, k5⟩ := h3.h i C hC
        refine ⟨b, cs, hle.1 _ _ k1, k2, pre, post, k3, k4.mono fun _ _ k => CR.mono _ hle k, ?_⟩
        unfold MR at k5 ⊢
        split
        · rename_i hm
          simp only [hm] at k5
          exact k5
        · rename_i j z hm
          simp only [hm] at k5
          exact k5
    · simp only [stN, look_cons] at hC hD
      rw [hbl] at e1 e2
      by_cases i1 : i = x.2.next
      · by_cases j1 : j = x.2.next
        · omega
        · rw [if_pos i1] at e1
          rw [if_neg j1] at e2
          injection e1 with e1
          subst e1
          rw [if_neg (Ne.symm j1)] at hD
          exact absurd e2 (hfar j D hD)
      · rw [if_neg i1] at e1
        by_cases j1 : j = x.2.next
        · rw [if_pos j1] at e2
          injection e2 with e2
          subst e2
          rw [if_neg (Ne.symm i1)] at hC
          exact absurd e1 (hfar i C hC)
        · rw [if_neg j1] at e2
          rw [if_neg (Ne.symm i1)] at hC
          rw [if_neg (Ne.symm j1)] at hD
          exact h3.inj i j C D b hC hD e1 e2
    · rw [hbl] at e
      split at e
      · injection e with e
        subst e
        exact hb.lt
      · exact h3.bnd i b e
    · simp only [stN, look_cons] at hC ⊢
      by_cases e : x.2.next = i
      · omega
      · rw [if_neg e] at hC
        have := h3.lt i C hC
        omega
  have hcl : Clean (ρ.setB x.2.next gg) (stN l.length x.2) := ⟨fun i hi => by
    simp only [stN] at hi
    rw [hbl, if_neg (by omega)]
    exact h4.b i (by omega), fun i hi => h4.c i hi⟩
  have hv : F2 (VR (VG q ga row) (ρ.setB x.2.next gg)) (argN id (1 + id) (2 - id) l.length x) #[.int .i64 id, .int .i64 (1 + id), .int .i64 (2 - id), v, .slice (some ⟨gg, 0, none⟩) l.length l.length].toList :=
    ⟨rfl, rfl, rfl, h5.mono _ hle, ⟨gg, l.length, by rw [hbl, if_pos rfl], rfl, Nat.le_refl _, rfl⟩, trivial⟩
  have hnew := HN.out
  unfold newOK at hnew
  split at hnew
  · rename_i out hout
    have hE := envNw_ok (V := VG q ga row) (vL_one V1_one 0 0)
    refine (runM_ok hE.1 hE.2 hout rfl hv hr hcl).mono ?_
    rintro e w' ⟨y, hy, c, ρ', rfl, hg, hc⟩
    have hk := List.all_eq_true.1 hnew y hy
    simp only [Bool.and_eq_true] at hk
    have h8 := subX_ok (V := VG q ga row) (vL_one V1_one 0 0) hk.1 hc
    obtain ⟨vs, rfl, h9⟩ := h8
    match hvs : vs.toList, h9 with
    | [u, u'], h9 =>
      obtain ⟨⟨cs, rfl, k1⟩, k2, _⟩ := h9
      have k2 : u' = .int .i64 0 := k2
      have e : vs = #[.agg cs, .int .i64 0] := Array.ext' (by rw [hvs, k2])
      subst e
      exact ⟨cs, rfl, fun V ρ => plain_l rfl k1, same_world hg (List.isEmpty_iff.1 hk.2)⟩
  · cases hnew
end
end Ab
end Go.Proofs.Ytddiclnkfhldlaa
namespace Go.Proofs.Ytddiclnkfhldlaa
namespace Ab
open Go.RowKit
set_option linter.unusedVariables false
set_option maxRecDepth 100000
section
variable {V0 : Nat → Value} {q : Ls} {ga b p : Nat} {row : Array Value} {hl : Bool} {i0 i1 : Nat}
/-- A row of known numbers. -/
def ints : List AC → Option (List Int)
  | [] => some []
  | .int .i64 n :: r => (match ints r with | some l => some (n :: l) | none => none)
  | _ :: _ => none
theorem ints_ok {V : Nat → Value} {ρ : Rho} : ∀ {l : List AC} {m : List Int} {vs : List Value}, ints l = some m → F2 (CR V ρ) l vs → vs = m.map (Value.int .i64)
  | [], m, vs, h, hv => by
    simp only [ints, Option.some.injEq] at h
    subst h
    cases vs with
    | nil => rfl
    | cons _ _ => exact hv.elim
  | x :: r, m, vs, h, hv => by
    match vs, hv with
    | v :: vs, hv =>
      unfold ints at h
      split at h
      · rename_i heq
        cases heq
      · rename_i n r' heq
        injection heq with e1 e2
        subst e1
        subst e2
        split at h
        · rename_i l hl
          simp only [Option.some.injEq] at h
          subst h
          have e : v = .int .i64 n := hv.1
          rw [List.map_cons, ← ints_ok hl hv.2, e]
        · cases h
      · cases h
/-- Rules, its value not told. -/
def rulesE (hl : Bool) (sd : Int) (i0 i1 : Nat) (args : List AV) (s : St) : Option (AV × St) :=
  match args with
  | [.one (.c (.ptr (some (i, 0)))), .one (.c (.int .i64 side))] => bif Nat.beq i i0 && (decide (side = sd) && codesIn hl i0 i1 s 900) then some (.any, codeOn s i0) else none
  | _ => none
/-- New on what Rules has yielded. -/
def newE (sd : Int) (args : List AV) (s : St) : Option (AV × St) :=
  match args with
  | [.one (.c (.int .i64 id)), .one (.c (.int .i64 lo)), .one (.c (.int .i64 re)), .any, .one (.c (.slice (some (j, 0)) n (.lit c)))] =>
    (match look s.heap j with
    | some ⟨ty, cells, none⟩ => (match ints cells with
      | some l => bif Nat.beq ty 3 && Nat.beq l.length n && Nat.beq n c && (Nat.beq n 1 || Nat.beq n 2) && (decide (id = sd) && (decide (lo = 1 + sd) && decide (re = 2 - sd))) then some (gwR sd, s) else none
      | none => none)
    | _ => none)
  | _ => none
def callG (hl : Bool) (sd : Int) (i0 i1 : Nat) : Call1 := fun f args s =>
  bif Nat.beq f 40 then rulesE hl sd i0 i1 args s else bif Nat.beq f 39 then newE sd args s else none
def KR (hl : Bool) (sd : Int) (q : Ls) (ga : Nat) (row : Array Value) (v : Value) (w : World) : Prop := ∃ g B, RulesOK hl sd q ga row g B w v
theorem rulesE_ok {sd : Int} (hsd : sd = 0 ∨ sd = 1) (hL : LsOK hl q ga row) {args : List AV} {s s1 : St} {v : AV} (h : callG hl sd i0 i1 40 args s = some (v, s1)) (ρ : Rho) (w : World) (vals : Array Value) (hv : F2 (VR (vL V0 q ga row b p) ρ) args vals.toList) (hr : Rep (vL V0 q ga row b p) ρ s w) (hf : Free ρ s s1) :
    Calls Try.prog 40 vals w fun e w' => ∃ c ρ', e = .returned c ∧ Goes (vL V0 q ga row b p) ρ s w s1 w' ρ' ∧ VR (vL V0 q ga row b p) ρ' v c ∧ KR hl sd q ga row c w' := by
  unfold callG at h
  simp only [Nat.beq_refl, cond_true] at h
  unfold rulesE at h
  split at h
  · rename_i i side
    cases hk : (Nat.beq i i0 && (decide (side = sd) && codesIn hl i0 i1 s 900))
    · simp [hk] at h
    · simp only [hk, cond_true, Option.some.injEq, Prod.mk.injEq] at h
      obtain ⟨rfl, rfl⟩ := h
      simp only [Bool.and_eq_true, decide_eq_true_eq] at hk
      obtain ⟨k1, k9, k2⟩ := hk
      have k1 := Nat.eq_of_beq_eq_true k1
      subst k1
      subst k9
      obtain ⟨c0, c1⟩ := codesIn_ok k2
      obtain ⟨g, p', hb, hC⟩ := rep_some hL hr c0 c1
      have hvals : vals = #[.pointer (some ⟨g, 0, none⟩), .int .i64 side] := by
        apply Array.ext'
        match hl : vals.toList, hv with
        | [x, y], hv =>
          obtain ⟨b', e0, e1⟩ := hv.1
          rw [hb] at e0
          injection e0 with e0
          subst e0
          have e2 : y = .int .i64 side := hv.2.1
          rw [e1, e2]
      subst hvals
      have hrow : RowIn hl ga row w := fun e => (rep_list hr (c1 e)).2
      have hne : hl = true → ga ≠ g := by
        intro e he
        have h1 := hrow e
        have h2 : MBlk w g 84 #[.slice q.A q.n q.cap, .int .i64 (p' : Nat)] := hC.2.2.1
        subst he
        unfold MBlk Go.Proofs.Ytddiclnkfhldlaa.Blk at h1 h2
        rw [h1] at h2
        injection h2 with h2
        injection h2 with _ h2
        exact absurd h2 (by decide)
      refine (rules_any hL hC hrow hne hsd).mono ?_
      rintro e w' ⟨c, rfl, hR, ⟨p2, hC'⟩, hg, _⟩
      exact ⟨c, ρ, rfl, go_codes hr c0 hb hg hC'.2.2.1 (pb_some hC'.1), trivial, g, w.heap.size, hR⟩
  · cases h
theorem newE_ok {sd : Int} (hsd : sd = 0 ∨ sd = 1) {V : Nat → Value} {args : List AV} {s s1 : St} {v : AV} (h : callG hl sd i0 i1 39 args s = some (v, s1)) (ρ : Rho) (w : World) (vals : Array Value) (hv : F2 (VR V ρ) args vals.toList) (hr : Rep V ρ s w) (hf : Free ρ s s1) (hK : KR hl sd q ga row (vals.toList[3]?.getD undef) w) :
    Calls Try.prog 39 vals w fun e w' => ∃ c ρ', e = .returned c ∧ Goes V ρ s w s1 w' ρ' ∧ VR V ρ' v c := by
  unfold callG at h
  have hb0 : Nat.beq 39 40 = false := by decide
  simp only [hb0, cond_false, Nat.beq_refl, cond_true] at h
  unfold newE at h
  split at h
  · rename_i id lo re j n c
    split at h
    · rename_i ty cells hlook
      split at h
      · rename_i l hints
        cases hk : (Nat.beq ty 3 && Nat.beq l.length n && Nat.beq n c && (Nat.beq n 1 || Nat.beq n 2) && (decide (id = sd) && (decide (lo = 1 + sd) && decide (re = 2 - sd))))
        · rw [hk] at h
          cases h
        · rw [hk] at h
          simp only [cond_true, Option.some.injEq, Prod.mk.injEq] at h
          obtain ⟨rfl, rfl⟩ := h
          simp only [Bool.and_eq_true, Bool.or_eq_true, decide_eq_true_eq] at hk
          obtain ⟨⟨⟨⟨k1, k2⟩, k3⟩, k4⟩, rfl, rfl, rfl⟩ := hk
          have k1 := Nat.eq_of_beq_eq_true k1
          have k2 := Nat.eq_of_beq_eq_true k2
          have k3 := Nat.eq_of_beq_eq_true k3
          subst k1
          subst k3
          subst k2
          obtain ⟨gg, cs, g1, g2, pre, post, g3, g4, g5⟩ := hr.h j _ hlook
          have g5 : post = [] := g5
          subst g5
          have hpre := ints_ok hints g4
          rw [List.append_nil, hpre] at g3
          have hcs : cs = (l.map (Value.int .i64)).toArray := Array.ext' (by rw [g3])
          subst hcs
          obtain ⟨g, B, hR⟩ := hK
          have hvals : vals = #[.int .i64 id, .int .i64 (1 + id), .int .i64 (2 - id), vals.toList[3]?.getD undef, .slice (some ⟨gg, 0, none⟩) l.length l.length] := by
            apply Array.ext'
            match hl : vals.toList, hv with
            | [x0, x1, x2, x3, x4], hv =>
              have e0 : x0 = .int .i64 id := hv.1
              have e1 : x1 = .int .i64 (1 + id) := hv.2.1
              have e2 : x2 = .int .i64 (2 - id) := hv.2.2.1
              obtain ⟨b', m, e4, e5, _, e6⟩ := hv.2.2.2.2.1
              rw [g1] at e4
              injection e4 with e4
              subst e4
              have e5 : m = l.length := e5
              subst e5
              rw [e0, e1, e2, e6]
              simp
          rw [hvals]
          refine (new_gw hsd hR (l := l) (gg := gg) ?_ g2).mono ?_
          · rcases k4 with k4 | k4
            · exact .inl (Nat.eq_of_beq_eq_true k4)
            · exact .inr (Nat.eq_of_beq_eq_true k4)
          · rintro e w' ⟨cs, rfl, hG, hb⟩
            exact ⟨_, ρ, rfl, goes_keep hr hb, #[.agg cs, .int .i64 0], rfl, ⟨cs, rfl, hG _ _⟩, rfl, trivial⟩
      · cases h
    · cases h
  · cases h
noncomputable def envG (hl : Bool) : Env := env noTab noCvt (onlyE envZ (nextW hl 0 1))
def twoA : Two := ⟨1, 40, 19, 9, 39, 3⟩
def twoB : Two := ⟨1, 40, 32, 9, 39, 3⟩
def orD (a b : Draw1) : Draw1 := fun ops t s => match a ops t s with | some r => some r | none => b ops t s
theorem orD_ok {P : Program} {V : Nat → Value} {a b : Draw1} (h1 : DrawOK P V a) (h2 : DrawOK P V b) : DrawOK P V (orD a b) := by
  intro ops t s t' s' h
  unfold orD at h
  split at h
  · rename_i r hr
    injection h with h
    subst h
    exact h1 ops t s t' s' hr
  · exact h2 ops t s t' s' h
theorem orD_up {a b : Draw1} (h1 : DrawUp a) (h2 : DrawUp b) : DrawUp (orD a b) := by
  intro ops t s t' s' h
  unfold orD at h
  split at h
  · rename_i r hr
    injection h with h
    subst h
    exact h1 ops t s t' s' hr
  · exact h2 ops t s t' s' h
theorem drawT_up {E : Env} {call : Call1} {T : Two} (hup : CallUp call) : DrawUp (drawT E call T) := by
  intro ops t s t' s' h
  unfold drawT at h
  split at h
  · cases h
  · rename_i B hB
    cases hb : (twoCk B T ops && Nat.blt T.d t.length)
    · rw [hb] at h
      cases h
    · rw [hb] at h
      exact drawA_up hup ops t s t' s' h
noncomputable def drG (hl : Bool) : Draw1 := orD (drawT (envG hl) (callG hl 0 0 1) twoA) (orD (drawT (envG hl) (callG hl 1 0 1) twoB) (drawA (envG hl) (fnA (envG hl) 30)))
def spG (id : Nat) : Option Nat := match id with | 2 => some 5 | _ => none
def gwsR : AV := .tup [.agg (gwI 0), .agg (gwI 1)]
noncomputable def gwsOK (hl : Bool) : Bool :=
  match runMD (envG hl) (drG hl) spG 1000 10 (argC []) (sC hl) with
  | some out => out.all fun y => subX [] [] y.1 gwsR && onC hl y.2
  | none => false
theorem rGwsT : gwsOK true = true := by kernel_rfl
theorem rGwsF : gwsOK false = true := by kernel_rfl
theorem callG_up {sd : Int} : CallUp (callG hl sd i0 i1) := by
  intro f args s v s' h
  unfold callG at h
  cases h0 : Nat.beq f 40
  · rw [h0] at h
    simp only [cond_false] at h
    cases h1 : Nat.beq f 39
    · rw [h1] at h
      cases h
    · rw [h1] at h
      simp only [cond_true] at h
      unfold newE at h
      split at h
      · split at h
        · split at h
          · rename_i l _
            generalize hz : (Nat.beq _ _ && _ && _ && _ && _) = z at h
            cases z
            · cases h
            · simp only [cond_true, Option.some.injEq, Prod.mk.injEq] at h
              rw [← h.2]
              exact ⟨Nat.le_refl _, Nat.le_refl _⟩
          · cases h
        · cases h
      · cases h
  · rw [h0] at h
    simp only [cond_true] at h
    unfold rulesE at h
    split at h
    · generalize hz : (Nat.beq _ _ && _) = z at h
      cases z
      · cases h
      · simp only [cond_true, Option.some.injEq, Prod.mk.injEq] at h
        rw [← h.2]
        exact ⟨Nat.le_refl _, Nat.le_refl _⟩
    · cases h
theorem callG_fn {sd : Int} : CallFn (envG hl) (callG hl sd i0 i1) := by
  intro f args s r h
  unfold callG at h
  cases h0 : Nat.beq f 40
  · rw [h0] at h
    simp only [cond_false] at h
    cases h1 : Nat.beq f 39
    · rw [h1] at h
      cases h
    · rw [Nat.eq_of_beq_eq_true h1]
      exact ⟨Try.f39, by kernel_rfl⟩
  · rw [Nat.eq_of_beq_eq_true h0]
    exact ⟨Try.f40, by kernel_rfl⟩
theorem kr_below {sd : Int} : ∀ c w w', KR hl sd q ga row c w → RowKit.Below w.heap.size w w' → KR hl sd q ga row c w' := fun c w w' ⟨g, B, h⟩ hb => ⟨g, B, rulesOK_below h hb⟩
theorem drG_ok (hL : LsOK hl q ga row) (h1 : ∀ i, (V0 i).oneCell' = true) : EnvOK Try.prog (vL V0 q ga row b p) (envG hl) ∧ ExtOK Try.prog (vL V0 q ga row b p) (envG hl) ∧ DrawOK Try.prog (vL V0 q ga row b p) (drG hl) ∧ DrawUp (drG hl) := by
  have hX := envX_ok (vL_one h1 b p) (nextW_ok (V0 := V0) (b := b) (p := p) (i0 := 0) (i1 := 1) hL)
  have hT : ∀ sd : Int, (sd = 0 ∨ sd = 1) → ∀ T : Two, T.f0 = 40 → T.f1 = 39 → T.n = 3 → DrawOK Try.prog (vL V0 q ga row b p) (drawT (envG hl) (callG hl sd 0 1) T) := by
    intro sd hsd T e0 e1 e2
    refine drawT_ok (K := KR hl sd q ga row) hX.1 callG_fn callG_up kr_below ?_ ?_
    · intro args s s1 v h
      rw [e0] at h ⊢
      exact rulesE_ok hsd hL h
    · intro args s s1 v h
      rw [e1] at h ⊢
      rw [e2]
      exact newE_ok hsd h
  have hc := fnA_ok hX.1 hX.2 30
  have hf := fnA_fn (E := envG hl) hX.2.fn 30
  have hu := fnA_up (E := envG hl) hX.2.up 30
  exact ⟨hX.1, hX.2, orD_ok (hT 0 (.inl rfl) twoA rfl rfl rfl) (orD_ok (hT 1 (.inr rfl) twoB rfl rfl rfl) (draw_ok hX.1 hc hf hu)), orD_up (drawT_up callG_up) (orD_up (drawT_up callG_up) (drawA_up hu))⟩
/-- Gateways. -/
def gwE (hl : Bool) (i0 i1 : Nat) (f : Nat) (args : List AV) (s : St) : Option (AV × St) :=
  match args with
  | [.one (.c (.ptr (some (i, 0))))] => bif Nat.beq f 10 && (Nat.beq i i0 && codesIn hl i0 i1 s 900) then some (gwsR, codeOn s i0) else none
  | _ => none
theorem gwE_ok (hL : LsOK hl q ga row) (h1 : ∀ i, (V0 i).oneCell' = true) : CallOK Try.prog (vL V0 q ga row b p) (gwE hl i0 i1) := by
  intro f args s v s' h ρ w vals hargs hr hf
  unfold gwE at h
  split at h
  · rename_i i
    cases hk : (Nat.beq f 10 && (Nat.beq i i0 && codesIn hl i0 i1 s 900))
    · simp [hk] at h
    · simp only [hk, cond_true, Option.some.injEq, Prod.mk.injEq] at h
      obtain ⟨rfl, rfl⟩ := h
      simp only [Bool.and_eq_true] at hk
      obtain ⟨k0, k1, k2⟩ := hk
      have k0 := Nat.eq_of_beq_eq_true k0
      subst k0
      have k1 := Nat.eq_of_beq_eq_true k1
      subst k1
      obtain ⟨r1, r2⟩ := rep_sC h1 hr k2
      have hv : F2 (VR (vL V0 q ga row b p) (ρ.ren (fC hl i i1) [])) (argC []) vals.toList := by
        match hl : vals.toList, hargs with
        | [u], hv =>
          obtain ⟨g, e0, e1⟩ := hv.1
          exact ⟨⟨g, by rw [ren_0]; exact e0, e1⟩, trivial⟩
      have hrun : gwsOK hl = true := by
        cases hl
        · exact rGwsF
        · exact rGwsT
      obtain ⟨d1, d2, d3, d4⟩ := drG_ok (V0 := V0) (b := b) (p := p) hL h1
      unfold gwsOK at hrun
      split at hrun
      · rename_i out hout
        refine (runMD_ok d1 d2 d3 d4 hout rfl hv r1 r2).mono ?_
        rintro e w' ⟨y, hy, c, ρ', rfl, hg, hc⟩
        have hk := List.all_eq_true.1 hrun y hy
        simp only [Bool.and_eq_true] at hk
        exact ⟨c, ρ, rfl, on_codes h1 hr k2 hg hk.2, (subX_ok (vL_one h1 b p) hk.1 hc).mono _ (ren_nil _ _)⟩
      · cases hrun
  · cases h
end
end Ab
end Go.Proofs.Ytddiclnkfhldlaa
