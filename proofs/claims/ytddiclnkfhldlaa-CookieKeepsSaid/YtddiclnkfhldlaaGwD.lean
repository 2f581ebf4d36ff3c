/-
  The contracts of Rules and New, one behind the other.
  Conditions: none.
-/
import Derived.Test.YtddiclnkfhldlaaGwNA
import Derived.Test.YtddiclnkfhldlaaGwNB
import Derived.Test.YtddiclnkfhldlaaGwNC
import Derived.Test.YtddiclnkfhldlaaGwND
import Derived.Test.YtddiclnkfhldlaaGwNE
import Derived.Test.YtddiclnkfhldlaaGwNF
import Derived.Test.YtddiclnkfhldlaaGwNG
import Derived.Test.YtddiclnkfhldlaaMuD
import Derived.Test.YtddiclnkfhldlaaDr2
namespace Go.Proofs.Ytddiclnkfhldlaa
namespace Ab
open Go.RowKit
set_option linter.unusedVariables false
section
variable {q : Ls} {ga : Nat} {row : Array Value} {hl : Bool}
def V1 : Nat → Value := fun _ => .bool true
theorem V1_one (i : Nat) : (V1 i).oneCell' = true := rfl
/-- The values here. -/
abbrev VG (q : Ls) (ga : Nat) (row : Array Value) : Nat → Value := vL V1 q ga row 0 0
/-- The choices' row lies here. -/
def RowIn (hl : Bool) (ga : Nat) (row : Array Value) (w : World) : Prop := hl = true → MBlk w ga 5 row
theorem mm_mem1 {E : Env} {x : MM} (h : mmOK E x = true) : ∀ y ∈ [x], mmOK E y = true := fun y hy => by
  rw [List.mem_singleton.1 hy]
  exact h
theorem extB_ok {V0 : Nat → Value} {b p : Nat} {i0 i1 : Nat} (hL : LsOK hl q ga row) (h1 : ∀ i, (V0 i).oneCell' = true) : CallOK Try.prog (vL V0 q ga row b p) (extB hl i0 i1) :=
  orE_ok (nextN_ok hL) (tagE_ok hL h1)
theorem names_all : ∀ x ∈ [mName sGold, mName sSilver], mmOK envZ x = true := fun x hx => by
  simp only [List.mem_cons, List.not_mem_nil, or_false] at hx
  rcases hx with rfl | rfl
  · exact rNameG
  · exact rNameS
theorem extNw_ok {V : Nat → Value} (h1 : ∀ i, (V i).oneCell' = true) : CallOK Try.prog V extNw :=
  orE_ok (checkE_ok h1) (mmE_ok (envZ_ok h1).1 (envZ_ok h1).2 names_all)
theorem envNw_ok {V : Nat → Value} (h1 : ∀ i, (V i).oneCell' = true) : EnvOK Try.prog V envNw ∧ ExtOK Try.prog V envNw := envX_ok h1 (extNw_ok h1)
/-- The choices alone, from memory. -/
theorem rep_start (hL : LsOK hl q ga row) {w : World} {g p : Nat} (hC : Cod w g q p) (hB : RowIn hl ga row w) (hne : hl = true → ga ≠ g) :
    ∃ ρ, Rep (VG q ga row) ρ (sC hl) w ∧ Clean ρ (sC hl) ∧ ρ.blk 0 = some g ∧ ∀ i b, ρ.blk i = some b → b = g ∨ (hl = true ∧ b = ga) := by
  have hcs : MBlk w g 84 #[.slice q.A q.n q.cap, .int .i64 (p : Nat)] := hC.2.2.1
  have code : ∀ ρ', BR (VG q ga row) ρ' g ⟨84, [], some (900, 0)⟩ #[.slice q.A q.n q.cap, .int .i64 (p : Nat)] := fun ρ' => ⟨[], _, by simp; rfl, trivial, rfl, pb_some hC.1⟩
  cases hl with
  | false =>
    refine ⟨⟨fun i => if i = 0 then some g else none, fun _ => none⟩, ⟨?_, ?_, ?_, ?_⟩, ⟨fun i hi => ?_, fun _ _ => rfl⟩, rfl, fun i b h => ?_⟩
    · intro i B h
      simp only [sC, cond_false, look_cons] at h
      by_cases e : 0 = i
      · rw [if_pos e, Option.some.injEq] at h
        subst h
        subst e
        exact ⟨g, _, rfl, hcs, code _⟩
      · rw [if_neg e] at h
        cases h
    · intro i j B C b hi hj h1 h2
      simp only at h1 h2
      split at h1
      · rename_i e
        split at h2
        · rename_i e'
          omega
        · cases h2
      · cases h1
    · intro i b h
      simp only at h
      split at h
      · injection h with h
        subst h
        exact hC.lt
      · cases h
    · intro i B h
      simp only [sC, cond_false, look_cons] at h
      by_cases e : 0 = i
      · subst e
        simp [sC]
      · rw [if_neg e] at h
        cases h
    · simp only [sC] at hi
      show (if i = 0 then _ else _) = _
      rw [if_neg (by omega)]
    · simp only at h
      split at h
      · injection h with h
        exact .inl h.symm
      · cases h
  | true =>
    have hrow := hB rfl
    refine ⟨⟨fun i => if i = 0 then some g else if i = 1 then some ga else none, fun _ => none⟩, ⟨?_, ?_, ?_, ?_⟩, ⟨fun i hi => ?_, fun _ _ => rfl⟩, rfl, fun i b h => ?_⟩
    · intro i B h
      simp only [sC, cond_true, look_cons] at h
      by_cases e : 0 = i
      · rw [if_pos e, Option.some.injEq] at h
        subst h
        subst e
        exact ⟨g, _, rfl, hcs, code _⟩
      · rw [if_neg e] at h
        by_cases e1 : 1 = i
        · rw [if_pos e1, Option.some.injEq] at h
          subst h
          subst e1
          exact ⟨ga, row, rfl, hrow, [], _, by simp; rfl, trivial, rfl, .inl rfl⟩
        · rw [if_neg e1] at h
          cases h
    · intro i j B C b hi hj h1 h2
      simp only at h1 h2
      have := hne rfl
      by_cases i0 : i = 0
      · by_cases j0 : j = 0
        · omega
        · rw [if_pos i0] at h1
          rw [if_neg j0] at h2
          split at h2
          · injection h1 with h1
            injection h2 with h2
            exact absurd (h2.trans h1.symm) this
          · cases h2
      · rw [if_neg i0] at h1
        split at h1
        · rename_i e1
          by_cases j0 : j = 0
          · rw [if_pos j0] at h2
            injection h1 with h1
            injection h2 with h2
            exact absurd (h1.trans h2.symm) this
          · rw [if_neg j0] at h2
            split at h2
            · omega
            · cases h2
        · cases h1
    · intro i b h
      simp only at h
      split at h
      · injection h with h
        subst h
        exact hC.lt
      · split at h
        · injection h with h
          subst h
          exact hrow.lt
        · cases h
    · intro i B h
      simp only [sC, cond_true, look_cons] at h
      by_cases e : 0 = i
      · subst e
        simp [sC]
      · rw [if_neg e] at h
        by_cases e1 : 1 = i
        · subst e1
          simp [sC]
        · rw [if_neg e1] at h
          cases h
    · simp only [sC] at hi
      show (if i = 0 then _ else if i = 1 then _ else _) = _
      rw [if_neg (by omega), if_neg (by omega)]
    · simp only at h
      split at h
      · injection h with h
        exact .inl h.symm
      · split at h
        · injection h with h
          exact .inr ⟨rfl, h.symm⟩
        · cases h
theorem f2_at {V : Nat → Value} {ρ : Rho} : ∀ {l : List AC} {m : List Value}, F2 (CR V ρ) l m → ∀ (i : Nat) {x : AC}, l[i]? = some x → ∃ z, m[i]? = some z ∧ CR V ρ x z
  | y :: l, v :: m, h, 0, x, hx => by
    injection hx with hx
    subst hx
    exact ⟨v, rfl, h.1⟩
  | y :: l, v :: m, h, i + 1, x, hx => by
    obtain ⟨z, h1, h2⟩ := f2_at h.2 i (x := x) hx
    exact ⟨z, h1, h2⟩
  | [], _, _, i, x, hx => by cases hx
  | _ :: _, [], h, _, _, _ => h.elim
theorem f2_one {V : Nat → Value} (h1 : ∀ i, (V i).oneCell' = true) {ρ : Rho} : ∀ {l : List AC} {m : List Value}, F2 (CR V ρ) l m → ∀ v ∈ m, v.oneCell' = true
  | y :: l, v :: m, h, u, hu => by
    rcases List.mem_cons.1 hu with rfl | hu
    · exact CR.one V h1 h.1
    · exact f2_one h1 h.2 u hu
  | _, [], _, u, hu => by cases hu
  | [], _ :: _, h, _, _ => h.elim
/-- A value that Rules has made; its memory lies from block B on. -/
def RulesOK (hl : Bool) (side : Int) (q : Ls) (ga : Nat) (row : Array Value) (g B E : Nat) (w : World) (v : Value) : Prop :=
  ∃ l, rulesOut hl side = some l ∧ ∃ x ∈ l, ∃ ρ, Rep (VG q ga row) ρ x.2 w ∧ Clean ρ x.2 ∧ VR (VG q ga row) ρ x.1 v ∧ ∀ i C b, look x.2.heap i = some C → 2 ≤ i → ρ.blk i = some b → B ≤ b ∧ b < E
theorem rulesOK_below {side : Int} {g B E : Nat} {w w' : World} {v : Value} (h : RulesOK hl side q ga row g B E w v) (hb : RowKit.Below w.heap.size w w') : RulesOK hl side q ga row g B E w' v := by
  obtain ⟨l, h1, x, h2, ρ, h3, h4, h5, h6⟩ := h
  exact ⟨l, h1, x, h2, ρ, (goes_keep h3 hb).1, h4, h5, h6⟩
/-- What codes a state tells, from memory. -/
theorem codes_back (hL : LsOK hl q ga row) {ρ : Rho} {s : St} {w : World} (hr : Rep (VG q ga row) ρ s w) (h : codesIn hl 0 1 s 900 = true) {g : Nat} (hg : ρ.blk 0 = some g) : ∃ p, Cod w g q p := by
  obtain ⟨c0, c1⟩ := codesIn_ok h
  obtain ⟨g', p', e, hC⟩ := rep_some hL hr c0 c1
  rw [hg] at e
  injection e with e
  subst e
  exact ⟨p', hC⟩
theorem rules_on (hl : Bool) {side : Int} (hs : side = 0 ∨ side = 1) : ∃ l, rulesOut hl side = some l ∧ l.length ≤ 28 ∧ ∀ x ∈ l, onC hl x.2 = true ∧ noIntH x.2.heap = true ∧ rfreeH 40 42 x.2.heap = true ∧ rfreeV 40 42 x.1 = true := by
  have key := rules_ck hl hs
  unfold rulesCk at key
  split at key
  · rename_i l hl'
    simp only [Bool.and_eq_true] at key
    refine ⟨l, hl', Nat.le_of_ble_eq_true key.1, fun x hx => ?_⟩
    have := List.all_eq_true.1 key.2 x hx
    simp only [Bool.and_eq_true] at this
    exact this
  · cases key
theorem newsOK_at {hl : Bool} {side : Int} {a : Nat} (h : newsOK hl side a = true) {l : List (AV × St)} (hl' : rulesOut hl side = some l) {x : AV × St} {i : Nat} (hi : l[i]? = some x) (h1 : a ≤ i) (h2 : i < a + 2) : newOK side 1 x = true ∧ newOK side 2 x = true := by
  unfold newsOK at h
  rw [hl'] at h
  simp only at h
  have hm : x ∈ (l.drop a).take 2 := by
    refine List.mem_iff_getElem?.2 ⟨i - a, ?_⟩
    rw [List.getElem?_take, if_pos (by omega), List.getElem?_drop]
    rw [show a + (i - a) = i by omega]
    exact hi
  have := List.all_eq_true.1 h x hm
  simp only [Bool.and_eq_true] at this
  exact this
theorem news_all (hl : Bool) {side : Int} (hs : side = 0 ∨ side = 1) {l : List (AV × St)} (h : rulesOut hl side = some l) : ∀ x ∈ l, newOK side 1 x = true ∧ newOK side 2 x = true := by
  obtain ⟨l', e, hlen, _⟩ := rules_on hl hs
  rw [h] at e
  injection e with e
  subst e
  intro x hx
  obtain ⟨i, hi⟩ := List.mem_iff_getElem?.1 hx
  have hil : i < l.length := (List.getElem?_eq_some_iff.1 hi).1
  rcases (by omega : ((0 ≤ i) ∧ i < 0 + 2) ∨ ((2 ≤ i) ∧ i < 2 + 2) ∨ ((4 ≤ i) ∧ i < 4 + 2) ∨ ((6 ≤ i) ∧ i < 6 + 2) ∨ ((8 ≤ i) ∧ i < 8 + 2) ∨ ((10 ≤ i) ∧ i < 10 + 2) ∨ ((12 ≤ i) ∧ i < 12 + 2) ∨ ((14 ≤ i) ∧ i < 14 + 2) ∨ ((16 ≤ i) ∧ i < 16 + 2) ∨ ((18 ≤ i) ∧ i < 18 + 2) ∨ ((20 ≤ i) ∧ i < 20 + 2) ∨ ((22 ≤ i) ∧ i < 22 + 2) ∨ ((24 ≤ i) ∧ i < 24 + 2) ∨ ((26 ≤ i) ∧ i < 26 + 2)) with ⟨h1, h2⟩ | ⟨h1, h2⟩ | ⟨h1, h2⟩ | ⟨h1, h2⟩ | ⟨h1, h2⟩ | ⟨h1, h2⟩ | ⟨h1, h2⟩ | ⟨h1, h2⟩ | ⟨h1, h2⟩ | ⟨h1, h2⟩ | ⟨h1, h2⟩ | ⟨h1, h2⟩ | ⟨h1, h2⟩ | ⟨h1, h2⟩
  · rcases hs with rfl | rfl <;> cases hl
    · exact newsOK_at rNews_f0_0 h hi h1 h2
    · exact newsOK_at rNews_t0_0 h hi h1 h2
    · exact newsOK_at rNews_f1_0 h hi h1 h2
    · exact newsOK_at rNews_t1_0 h hi h1 h2
  · rcases hs with rfl | rfl <;> cases hl
    · exact newsOK_at rNews_f0_2 h hi h1 h2
    · exact newsOK_at rNews_t0_2 h hi h1 h2
    · exact newsOK_at rNews_f1_2 h hi h1 h2
    · exact newsOK_at rNews_t1_2 h hi h1 h2
  · rcases hs with rfl | rfl <;> cases hl
    · exact newsOK_at rNews_f0_4 h hi h1 h2
    · exact newsOK_at rNews_t0_4 h hi h1 h2
    · exact newsOK_at rNews_f1_4 h hi h1 h2
    · exact newsOK_at rNews_t1_4 h hi h1 h2
  · rcases hs with rfl | rfl <;> cases hl
    · exact newsOK_at rNews_f0_6 h hi h1 h2
    · exact newsOK_at rNews_t0_6 h hi h1 h2
    · exact newsOK_at rNews_f1_6 h hi h1 h2
    · exact newsOK_at rNews_t1_6 h hi h1 h2
  · rcases hs with rfl | rfl <;> cases hl
    · exact newsOK_at rNews_f0_8 h hi h1 h2
    · exact newsOK_at rNews_t0_8 h hi h1 h2
    · exact newsOK_at rNews_f1_8 h hi h1 h2
    · exact newsOK_at rNews_t1_8 h hi h1 h2
  · rcases hs with rfl | rfl <;> cases hl
    · exact newsOK_at rNews_f0_10 h hi h1 h2
    · exact newsOK_at rNews_t0_10 h hi h1 h2
    · exact newsOK_at rNews_f1_10 h hi h1 h2
    · exact newsOK_at rNews_t1_10 h hi h1 h2
  · rcases hs with rfl | rfl <;> cases hl
    · exact newsOK_at rNews_f0_12 h hi h1 h2
    · exact newsOK_at rNews_t0_12 h hi h1 h2
    · exact newsOK_at rNews_f1_12 h hi h1 h2
    · exact newsOK_at rNews_t1_12 h hi h1 h2
  · rcases hs with rfl | rfl <;> cases hl
    · exact newsOK_at rNews_f0_14 h hi h1 h2
    · exact newsOK_at rNews_t0_14 h hi h1 h2
    · exact newsOK_at rNews_f1_14 h hi h1 h2
    · exact newsOK_at rNews_t1_14 h hi h1 h2
  · rcases hs with rfl | rfl <;> cases hl
    · exact newsOK_at rNews_f0_16 h hi h1 h2
    · exact newsOK_at rNews_t0_16 h hi h1 h2
    · exact newsOK_at rNews_f1_16 h hi h1 h2
    · exact newsOK_at rNews_t1_16 h hi h1 h2
  · rcases hs with rfl | rfl <;> cases hl
    · exact newsOK_at rNews_f0_18 h hi h1 h2
    · exact newsOK_at rNews_t0_18 h hi h1 h2
    · exact newsOK_at rNews_f1_18 h hi h1 h2
    · exact newsOK_at rNews_t1_18 h hi h1 h2
  · rcases hs with rfl | rfl <;> cases hl
    · exact newsOK_at rNews_f0_20 h hi h1 h2
    · exact newsOK_at rNews_t0_20 h hi h1 h2
    · exact newsOK_at rNews_f1_20 h hi h1 h2
    · exact newsOK_at rNews_t1_20 h hi h1 h2
  · rcases hs with rfl | rfl <;> cases hl
    · exact newsOK_at rNews_f0_22 h hi h1 h2
    · exact newsOK_at rNews_t0_22 h hi h1 h2
    · exact newsOK_at rNews_f1_22 h hi h1 h2
    · exact newsOK_at rNews_t1_22 h hi h1 h2
  · rcases hs with rfl | rfl <;> cases hl
    · exact newsOK_at rNews_f0_24 h hi h1 h2
    · exact newsOK_at rNews_t0_24 h hi h1 h2
    · exact newsOK_at rNews_f1_24 h hi h1 h2
    · exact newsOK_at rNews_t1_24 h hi h1 h2
  · rcases hs with rfl | rfl <;> cases hl
    · exact newsOK_at rNews_f0_26 h hi h1 h2
    · exact newsOK_at rNews_t0_26 h hi h1 h2
    · exact newsOK_at rNews_f1_26 h hi h1 h2
    · exact newsOK_at rNews_t1_26 h hi h1 h2
/-- Rules. -/
theorem rules_any (hL : LsOK hl q ga row) {w : World} {g p : Nat} (hC : Cod w g q p) (hB : RowIn hl ga row w) (hne : hl = true → ga ≠ g) {side : Int} (hs : side = 0 ∨ side = 1) :
    Calls Try.prog 40 #[.pointer (some ⟨g, 0, none⟩), .int .i64 side] w fun e w' => ∃ v, e = .returned v ∧ RulesOK hl side q ga row g w.heap.size w'.heap.size w' v ∧ (∃ p', Cod w' g q p') ∧ w.grownBy w' (some g) ∧ RowIn hl ga row w' := by
  obtain ⟨ρ, h1, h2, h3, h4⟩ := rep_start hL hC hB hne
  obtain ⟨l, hl1, _, hl2'⟩ := rules_on hl hs
  have hl2 : ∀ x ∈ l, onC hl x.2 = true := fun x hx => (hl2' x hx).1
  have hX := envX_ok (vL_one V1_one 0 0) (extB_ok (b := 0) (p := 0) (i0 := 0) (i1 := 1) hL V1_one)
  have hv : F2 (VR (VG q ga row) ρ) (argC [litI side]) #[.pointer (some ⟨g, 0, none⟩), .int .i64 side].toList := ⟨⟨g, h3, rfl⟩, rfl, trivial⟩
  have hl1' := hl1
  unfold rulesOut at hl1'
  refine (runM_ok hX.1 hX.2 hl1' rfl hv h1 h2).mono ?_
  rintro e w' ⟨x, hx, c, ρ', rfl, hg, hc⟩
  have hon := hl2 x hx
  simp only [onC, Bool.and_eq_true] at hon
  have hd : ∀ j ∈ x.2.dirty, j = 0 := fun j hj => Nat.eq_of_beq_eq_true (List.all_eq_true.1 hon.2 j hj)
  have h0 : ρ'.blk 0 = some g := by
    rw [hg.2.1.blk 0 (.inl (by simp [sC]))]
    exact h3
  have hgr : w.grownBy w' (some g) := ⟨hg.2.1.os, hg.2.1.tape, hg.2.1.out, hg.2.1.size, fun i hi hne => hg.2.1.fr i hi (fun j hj _ => by
    rw [hd j hj, h3]
    exact fun e => hne (by injection e with e; rw [e]))⟩
  refine ⟨c, rfl, ⟨l, hl1, x, hx, ρ', hg.1, h2.goes hg, hc, fun i C b hi h2i hb => ?_⟩, codes_back hL hg.1 hon.1 h0, hgr, fun e => (hB e).grown hgr (fun e' => hne e (by injection e'))⟩
  have hlt := hg.1.lt i C hi
  refine ⟨?_, hg.1.bnd i b hb⟩
  rcases hg.2.1.new i b (by simpa [sC] using h2i) hlt hb with h | ⟨j, hj, _, hjb⟩
  · exact h
  · exfalso
    rw [hd j hj, h3] at hjb
    injection hjb with hjb
    subst hjb
    obtain ⟨c0, _⟩ := codesIn_ok hon.1
    have := hg.1.inj i 0 C _ _ hi (codeAt_eq c0) hb h0
    omega
/-- The cells of a gateway that is new. -/
def GwV (id : Int) (cs : Array Value) : Prop := ∀ V ρ, F2 (CR V ρ) (gwI id) cs.toList
/-- Cells that say the same whatever the symbols and places. -/
def plainC : AC → Bool
  | .int _ _ => true
  | .bool _ => true
  | .any => true
  | .num _ => true
  | .bo => true
  | .slice none _ (.lit _) => true
  | _ => false
theorem plain_c {V V' : Nat → Value} {ρ ρ' : Rho} {x : AC} {v : Value} (h : plainC x = true) (hx : CR V ρ x v) : CR V' ρ' x v := by
  unfold plainC at h
  split at h
  · exact hx
  · exact hx
  · exact hx
  · exact hx
  · exact hx
  · obtain ⟨m, h1, h2, h3⟩ := hx
    exact ⟨m, h1, h2, h3⟩
  · cases h
theorem plain_l {V V' : Nat → Value} {ρ ρ' : Rho} : ∀ {l : List AC} {m : List Value}, l.all plainC = true → F2 (CR V ρ) l m → F2 (CR V' ρ') l m
  | [], [], _, _ => trivial
  | x :: r, y :: s, h, hx => by
    simp only [List.all_cons, Bool.and_eq_true] at h
    exact ⟨plain_c h.1 hx.1, plain_l h.2 hx.2⟩
  | [], _ :: _, _, h => h.elim
  | _ :: _, [], _, h => h.elim
/-- The groups behind the symbols 40, 41. -/
def vG (l : List Int) : Nat → Value := fun i => if i = 40 then .int .i64 (l.getD 0 0) else if i = 41 then .int .i64 (l.getD 1 0) else V1 i
theorem vG_one (l : List Int) (i : Nat) : (vG l i).oneCell' = true := by
  unfold vG
  split
  · rfl
  · split <;> rfl
theorem vG_low (l : List Int) : ∀ i, (i < 40 ∨ 42 ≤ i) → VG q ga row i = vL (vG l) q ga row 0 0 i := by
  intro i hi
  unfold VG vL
  split
  · rfl
  · split
    · rfl
    · split
      · rfl
      · unfold vG
        rw [if_neg (by omega), if_neg (by omega)]
theorem nums_f2 {ρ : Rho} (l : List Int) (h : l.length = 1 ∨ l.length = 2) : F2 (CR (vL (vG l) q ga row 0 0) ρ) (nums l.length) (l.map (Value.int .i64)) := by
  match l, h with
  | [x], _ => exact ⟨rfl, trivial⟩
  | [x, y], _ => exact ⟨rfl, rfl, trivial⟩
/-- A function of two like arguments yields true, as long as some blocks hold what they held. -/
def Refl (f : Nat) (v : Value) (DK : Nat → Prop) (w : World) : Prop := ∀ w2, w.heap.size ≤ w2.heap.size → (∀ b, DK b → w2.heap[b]? = w.heap[b]?) → Calls Try.prog f #[v, v] w2 fun e w3 => e = .returned (.bool true) ∧ RowKit.Below w2.heap.size w2 w3
theorem keepH_look (seen : List Nat) : ∀ (H : List (Nat × Blk)) (i : Nat) (B : Blk), look (restr.keepH seen H) i = some B → look H i = some B ∧ (i, B) ∈ restr.keepH seen H
  | [], i, B, h => by cases h
  | x :: r, i, B, h => by
    unfold restr.keepH at h
    cases hx : hasN seen x.1
    · rw [hx] at h
      simp only [cond_false] at h
      obtain ⟨h1, h2⟩ := keepH_look seen r i B h
      have hne : x.1 ≠ i := by
        rintro rfl
        have : ∀ (H : List (Nat × Blk)), look (restr.keepH seen H) x.1 = none := by
          intro H
          induction H with
          | nil => rfl
          | cons y H ih =>
            unfold restr.keepH
            cases hy : hasN seen y.1
            · exact ih
            · simp only [cond_true]
              rw [look_cons, if_neg (fun e => by rw [e, hx] at hy; cases hy)]
              exact ih
        rw [this r] at h
        cases h
      refine ⟨by rw [look_cons, if_neg hne]; exact h1, ?_⟩
      unfold restr.keepH
      rw [hx]
      exact h2
    · rw [hx] at h
      simp only [cond_true] at h
      rw [look_cons] at h
      by_cases e : x.1 = i
      · rw [if_pos e, Option.some.injEq] at h
        subst h
        subst e
        refine ⟨by rw [look_cons, if_pos rfl], ?_⟩
        unfold restr.keepH
        rw [hx]
        exact List.mem_cons_self
      · rw [if_neg e] at h
        obtain ⟨h1, h2⟩ := keepH_look seen r i B h
        refine ⟨by rw [look_cons, if_neg e]; exact h1, ?_⟩
        unfold restr.keepH
        rw [hx]
        exact List.mem_cons_of_mem _ h2
theorem envS_ok {l : List Int} : EnvOK Try.prog (vL (vG l) q ga row 0 0) envS ∧ ExtOK Try.prog (vL (vG l) q ga row 0 0) envS := by
  refine ⟨env_ok ?_ (fun k i z h => (by cases h)) (vL_one (vG_one l) 0 0), noExt_ok rfl⟩
  intro op a b z h ρ u u' hu hu'
  unfold tabS at h
  split at h
  · rename_i i j
    cases hb : (Nat.beq i j && (Nat.beq i 40 || Nat.beq i 41))
    · rw [hb] at h
      cases h
    · rw [hb] at h
      simp only [cond_true] at h
      simp only [Bool.and_eq_true, Bool.or_eq_true] at hb
      have e := Nat.eq_of_beq_eq_true hb.1
      subst e
      have hu : u = vL (vG l) q ga row 0 0 i := hu
      have hu' : u' = vL (vG l) q ga row 0 0 i := hu'
      have hi : i = 40 ∨ i = 41 := hb.2.imp Nat.eq_of_beq_eq_true Nat.eq_of_beq_eq_true
      obtain ⟨n, hn⟩ : ∃ n : Int, vL (vG l) q ga row 0 0 i = .int .i64 n := by
        rcases hi with rfl | rfl
        · exact ⟨_, rfl⟩
        · exact ⟨_, rfl⟩
      have key : ∀ r : Bool, z = .bool r → cmpB op n n = some r → ∃ k n k' n' c, u = .int k n ∧ u' = .int k' n' ∧ CR (vL (vG l) q ga row 0 0) ρ z c ∧ ∀ xt, binOp op xt u u' = .pure c := by
        intro r hz hr
        subst hz
        rw [hu, hu', hn]
        exact ⟨_, _, _, _, .bool r, rfl, rfl, rfl, fun xt => cmpB_ok hr .i64 xt⟩
      split at h
      · injection h with h
        exact key false h.symm (by simp [cmpB])
      · injection h with h
        exact key true h.symm (by simp [cmpB])
      · cases h
  · cases h
theorem look_mem : ∀ {H : List (Nat × Blk)} {i : Nat} {B : Blk}, look H i = some B → (i, B) ∈ H
  | x :: r, i, B, h => by
    rw [look_cons] at h
    by_cases e : x.1 = i
    · rw [if_pos e, Option.some.injEq] at h
      rw [← e, ← h]
      exact List.mem_cons_self
    · rw [if_neg e] at h
      exact List.mem_cons_of_mem _ (look_mem h)
theorem rules_ty (hl : Bool) {side : Int} (hs : side = 0 ∨ side = 1) {l : List (AV × St)} (h : rulesOut hl side = some l) : ∀ x ∈ l, ∀ i C, look x.2.heap i = some C → C.ty ≠ 3 := by
  obtain ⟨l', e, _, key⟩ := rules_on hl hs
  rw [h] at e
  injection e with e
  subst e
  intro x hx i C hC e
  have h2 := List.all_eq_true.1 (key x hx).2.1 _ (look_mem hC)
  rw [e, Nat.beq_refl] at h2
  cases h2
/-- New. -/
theorem new_gw {id : Int} (hid : id = 0 ∨ id = 1) {g B E : Nat} {w : World} {v : Value} (hR : RulesOK hl id q ga row g B E w v) {gg : Nat} {l : List Int} (hl2 : l.length = 1 ∨ l.length = 2) (hb : MBlk w gg 3 (l.map (Value.int .i64)).toArray) :
    Calls Try.prog 39 #[.int .i64 id, .int .i64 (1 + id), .int .i64 (2 - id), v, .slice (some ⟨gg, 0, none⟩) l.length l.length] w fun e w' => ∃ cs, e = .returned (.tuple #[.agg cs, .int .i64 0]) ∧ GwV id cs ∧ RowKit.Below w.heap.size w w' ∧ ∃ (DK : Nat → Prop) (m4 m5 : Nat), cs[4]? = some (sliceOf m4) ∧ cs[5]? = some (sliceOf m5) ∧ Refl 62 (sliceOf m4) DK w' ∧ Refl 63 (sliceOf m5) DK w' ∧ ∀ b, DK b → b < w'.heap.size ∧ (w.heap.size ≤ b ∨ (B ≤ b ∧ b < E)) := by
  obtain ⟨l0, h1, x, h2, ρ, h3, h4, h5, h6⟩ := hR
  obtain ⟨n1, n2⟩ := news_all hl hid h1 x h2
  have hnew : newOK id l.length x = true := by
    rcases hl2 with e | e
    · rw [e]
      exact n1
    · rw [e]
      exact n2
  have HN := Lib.hid hnew
  have hty := rules_ty hl hid h1 x h2
  obtain ⟨l0', e0', _, hck⟩ := rules_on hl hid
  rw [h1] at e0'
  injection e0' with e0'
  subst e0'
  have hfr := (hck x h2).2.2
  clear hnew n1 n2 h2
  have hfar : ∀ i C, look x.2.heap i = some C → ρ.blk i ≠ some gg := fun i C hC e => by
    obtain ⟨b, cs, k1, k2, _⟩ := h3.h i C hC
    rw [e] at k1
    injection k1 with k1
    subst k1
    unfold MBlk Go.Proofs.Ytddiclnkfhldlaa.Blk at hb
    rw [hb] at k2
    injection k2 with k2
    injection k2 with _ k2
    exact hty i C hC k2.symm
  have hle : Le ρ (ρ.setB x.2.next gg) := setB_le (h4.b _ (Nat.le_refl _))
  have hbl : ∀ j, (ρ.setB x.2.next gg).blk j = if j = x.2.next then some gg else ρ.blk j := fun _ => rfl
  have hr : Rep (vL (vG l) q ga row 0 0) (ρ.setB x.2.next gg) (stN l.length x.2) w := by
    have h3 := rep_raV (vG_low l) hfr.1 h3
    refine ⟨fun i C hC => ?_, fun i j C D b hC hD e1 e2 => ?_, fun i b e => ?_, fun i C hC => ?_⟩
    · simp only [stN, look_cons] at hC
      by_cases e : x.2.next = i
      · rw [if_pos e, Option.some.injEq] at hC
        subst hC
        exact ⟨gg, _, by rw [hbl, if_pos e.symm], hb, _, [], by simp, nums_f2 l hl2, rfl⟩
      · rw [if_neg e] at hC
        obtain ⟨b, cs, k1, k2, pre, post, k3, k4, k5⟩ := h3.h i C hC
        refine ⟨b, cs, hle.1 _ _ k1, k2, pre, post, k3, k4.mono fun _ _ k => CR.mono _ hle k, ?_⟩
        unfold MR at k5 ⊢
        split
        · rename_i hm
          simp only [hm] at k5
          exact k5
        · rename_i j z hm
          simp only [hm] at k5
          exact k5
    · simp only [stN, look_cons] at hC hD
      rw [hbl] at e1 e2
      by_cases i1 : i = x.2.next
      · by_cases j1 : j = x.2.next
        · omega
        · rw [if_pos i1] at e1
          rw [if_neg j1] at e2
          injection e1 with e1
          subst e1
          rw [if_neg (Ne.symm j1)] at hD
          exact absurd e2 (hfar j D hD)
      · rw [if_neg i1] at e1
        by_cases j1 : j = x.2.next
        · rw [if_pos j1] at e2
          injection e2 with e2
          subst e2
          rw [if_neg (Ne.symm i1)] at hC
          exact absurd e1 (hfar i C hC)
        · rw [if_neg j1] at e2
          rw [if_neg (Ne.symm i1)] at hC
          rw [if_neg (Ne.symm j1)] at hD
          exact h3.inj i j C D b hC hD e1 e2
    · rw [hbl] at e
      split at e
      · injection e with e
        subst e
        exact hb.lt
      · exact h3.bnd i b e
    · simp only [stN, look_cons] at hC ⊢
      by_cases e : x.2.next = i
      · omega
      · rw [if_neg e] at hC
        have := h3.lt i C hC
        omega
  have hcl : Clean (ρ.setB x.2.next gg) (stN l.length x.2) := ⟨fun i hi => by
    simp only [stN] at hi
    rw [hbl, if_neg (by omega)]
    exact h4.b i (by omega), fun i hi => h4.c i hi⟩
  have hv : F2 (VR (vL (vG l) q ga row 0 0) (ρ.setB x.2.next gg)) (argN id (1 + id) (2 - id) l.length x) #[.int .i64 id, .int .i64 (1 + id), .int .i64 (2 - id), v, .slice (some ⟨gg, 0, none⟩) l.length l.length].toList :=
    ⟨rfl, rfl, rfl, (vr_raV (vG_low l) hfr.2 h5).mono _ hle, ⟨gg, l.length, by rw [hbl, if_pos rfl], rfl, Nat.le_refl _, rfl⟩, trivial⟩
  have hnew := HN.out
  unfold newOK at hnew
  split at hnew
  · rename_i out hout
    have hE := envNw_ok (V := vL (vG l) q ga row 0 0) (vL_one (vG_one l) 0 0)
    refine (runM_ok hE.1 hE.2 hout rfl hv hr hcl).mono ?_
    rintro e w' ⟨y, hy, c, ρ', rfl, hg, hc⟩
    have hk := List.all_eq_true.1 hnew y hy
    simp only [Bool.and_eq_true] at hk
    obtain ⟨hk1, hk2, hk3⟩ := hk
    have h8 := subX_ok (V := vL (vG l) q ga row 0 0) (vL_one (vG_one l) 0 0) hk1 hc
    obtain ⟨vs, rfl, h9⟩ := h8
    match hvs : vs.toList, h9 with
    | [u, u'], h9 =>
      obtain ⟨⟨cs, rfl, k1⟩, k2, _⟩ := h9
      have k2 : u' = .int .i64 0 := k2
      have e : vs = #[.agg cs, .int .i64 0] := Array.ext' (by rw [hvs, k2])
      subst e
      have hbel := same_world hg (List.isEmpty_iff.1 hk2)
      refine ⟨cs, rfl, fun V ρ => plain_l rfl k1, hbel, ?_⟩
      unfold deepCk at hk3
      split at hk3
      · rename_i lc _ hy1
        rw [hy1] at hc
        obtain ⟨vs', ev, hvs'⟩ := hc
        injection ev with ev
        subst ev
        obtain ⟨⟨cs', ec, hcs'⟩, _⟩ := hvs'
        injection ec with ec
        subst ec
        split at hk3
        · rename_i x4 x5 hx4 hx5
          simp only [Bool.and_eq_true] at hk3
          obtain ⟨r4, r5, i4, i5, hids⟩ := hk3
          obtain ⟨u4, hu4, hc4⟩ := f2_get hcs' 4 hx4
          obtain ⟨u5, hu5, hc5⟩ := f2_get hcs' 5 hx5
          have sl : ∀ {x : AC} {u : Value}, isSl x = true → CR (vL (vG l) q ga row 0 0) ρ' x u → ∃ m, u = sliceOf m := by
            intro x u hx hu
            unfold isSl at hx
            split at hx
            · obtain ⟨b, m, _, _, _, rfl⟩ := hu
              obtain ⟨k, hk⟩ := sliceOf_ex b 0 _ m
              exact ⟨k, hk.symm⟩
            · cases hx
          obtain ⟨m4, rfl⟩ := sl i4 hc4
          obtain ⟨m5, rfl⟩ := sl i5 hc5
          -- what the two rows need
          have hsub : ∀ i C, look (restr [x4, x5] y.2).heap i = some C → look y.2.heap i = some C ∧ 2 ≤ i ∧ i ≠ x.2.next := by
            intro i C hC
            obtain ⟨q1, q2⟩ := keepH_look _ _ i C hC
            have := List.all_eq_true.1 hids _ q2
            simp only [Bool.and_eq_true, Bool.not_eq_true'] at this
            refine ⟨q1, Nat.le_of_ble_eq_true this.1, fun e => ?_⟩
            have h9 : Nat.beq i ((stN l.length x.2).next - 1) = false := this.2
            rw [e] at h9
            have h10 : (stN l.length x.2).next - 1 = x.2.next := by simp [stN]
            rw [h10, Nat.beq_refl] at h9
            cases h9
          have refl : ∀ {f : Nat} {z : AC} {u : Value}, isT (fnA envS 60 f [.one (.c z), .one (.c z)] (restr [x4, x5] y.2)) = true → CR (vL (vG l) q ga row 0 0) ρ' z u → Refl f u (fun b => ∃ i C, look (restr [x4, x5] y.2).heap i = some C ∧ ρ'.blk i = some b) w' := by
            intro f z u hr1 hz w2 hsz hw2
            unfold isT at hr1
            split at hr1
            · rename_i s9 hrun
              obtain ⟨g1, g2⟩ := envS_ok (q := q) (ga := ga) (row := row) (l := l)
              have hcl' := hcl.goes hg
              have hr9 : Rep (vL (vG l) q ga row 0 0) ρ' (restr [x4, x5] y.2) w2 := by
                refine ⟨fun i C hC => ?_, fun i j C D b hC hD => hg.1.inj i j C D b (hsub i C hC).1 (hsub j D hD).1, fun i b hb => Nat.lt_of_lt_of_le (hg.1.bnd i b hb) hsz, fun i C hC => hg.1.lt i C (hsub i C hC).1⟩
                obtain ⟨b, cs2, t1, t2, t3⟩ := hg.1.h i C (hsub i C hC).1
                exact ⟨b, cs2, t1, (hw2 b ⟨i, C, hC, t1⟩).trans t2, t3⟩
              refine (fnA_ok g1 g2 60 f _ _ _ _ hrun ρ' w2 #[u, u] ⟨hz, hz, trivial⟩ hr9 ⟨fun i hi _ => hcl'.b i hi, fun i hi _ => hcl'.c i hi⟩).mono ?_
              rintro e w3 ⟨c3, ρ3, rfl, hg3, hc3⟩
              have hc3 : c3 = .bool true := hc3
              exact ⟨by rw [hc3], same_world hg3 (List.isEmpty_iff.1 hr1)⟩
            · cases hr1
          refine ⟨_, m4, m5, ?_, ?_, refl r4 hc4, refl r5 hc5, ?_⟩
          · rw [← Array.getElem?_toList]; exact hu4
          · rw [← Array.getElem?_toList]; exact hu5
          · rintro b ⟨i, C, hC, hb'⟩
            obtain ⟨q1, q2, q3⟩ := hsub i C hC
            refine ⟨hg.1.bnd i b hb', ?_⟩
            by_cases hi : i < (stN l.length x.2).next ∨ y.2.next ≤ i
            · rw [hg.2.1.blk i hi, hbl, if_neg q3] at hb'
              have hin : i < (stN l.length x.2).next := Nat.lt_of_not_le (fun hge => by
                have := hg.1.lt i C q1
                rcases hi with hi | hi <;> omega)
              obtain ⟨C', hC'⟩ := Option.isSome_iff_exists.1 (hg.2.1.sub i hin (by rw [q1]; rfl))
              simp only [stN, look_cons] at hC'
              rw [if_neg (Ne.symm q3)] at hC'
              exact .inr (h6 i C' b hC' q2 hb')
            · rcases hg.2.1.new i b (by omega) (by omega) hb' with h | ⟨j, hj, _, _⟩
              · exact .inl h
              · rw [List.isEmpty_iff.1 hk2] at hj
                cases hj
        · cases hk3
      · cases hk3
  · cases hnew
end
end Ab
end Go.Proofs.Ytddiclnkfhldlaa
namespace Go.Proofs.Ytddiclnkfhldlaa
namespace Ab
open Go.RowKit
set_option linter.unusedVariables false
set_option maxRecDepth 100000
section
variable {V0 : Nat → Value} {q : Ls} {ga b p : Nat} {row : Array Value} {hl : Bool} {i0 i1 : Nat}
/-- A row of known numbers. -/
def ints : List AC → Option (List Int)
  | [] => some []
  | .int .i64 n :: r => (match ints r with | some l => some (n :: l) | none => none)
  | _ :: _ => none
theorem ints_ok {V : Nat → Value} {ρ : Rho} : ∀ {l : List AC} {m : List Int} {vs : List Value}, ints l = some m → F2 (CR V ρ) l vs → vs = m.map (Value.int .i64)
  | [], m, vs, h, hv => by
    simp only [ints, Option.some.injEq] at h
    subst h
    cases vs with
    | nil => rfl
    | cons _ _ => exact hv.elim
  | x :: r, m, vs, h, hv => by
    match vs, hv with
    | v :: vs, hv =>
      unfold ints at h
      split at h
      · rename_i heq
        cases heq
      · rename_i n r' heq
        injection heq with e1 e2
        subst e1
        subst e2
        split at h
        · rename_i l hl
          simp only [Option.some.injEq] at h
          subst h
          have e : v = .int .i64 n := hv.1
          rw [List.map_cons, ← ints_ok hl hv.2, e]
        · cases h
      · cases h
/-- Rules, its value not told. -/
def rulesE (hl : Bool) (sd : Int) (i0 i1 : Nat) (args : List AV) (s : St) : Option (AV × St) :=
  match args with
  | [.one (.c (.ptr (some (i, 0)))), .one (.c (.int .i64 side))] => bif Nat.beq i i0 && (decide (side = sd) && codesIn hl i0 i1 s 900) then some (.any, codeOn s i0) else none
  | _ => none
/-- The cells of a gateway that is new, its rules and groups known again. -/
def gwIc (id : Int) (c : Nat) : List AC := [.int .i64 id, .int .i64 (1 - id), .int .i64 (1 + id), .int .i64 (2 - id), .cv c, .cv (c + 1), .int .i64 0, .int .i64 2, .int .i64 2, .int .i64 (id * 1048576 + 1), .slice none 0 (.lit 0), .int .i64 2, .int .i64 (id * 1048576 + 2), .slice none 0 (.lit 0), .int .i64 0, .slice none 0 (.lit 0), .slice none 0 (.lit 0), .slice none 0 (.lit 0), .slice none 0 (.lit 0)]
/-- New on what Rules has yielded. -/
def newE (sd : Int) (args : List AV) (s : St) : Option (AV × St) :=
  match args with
  | [.one (.c (.int .i64 id)), .one (.c (.int .i64 lo)), .one (.c (.int .i64 re)), .any, .one (.c (.slice (some (j, 0)) n (.lit c)))] =>
    (match look s.heap j with
    | some ⟨ty, cells, none⟩ => (match ints cells with
      | some l => bif Nat.beq ty 3 && Nat.beq l.length n && Nat.beq n c && (Nat.beq n 1 || Nat.beq n 2) && (decide (id = sd) && (decide (lo = 1 + sd) && decide (re = 2 - sd))) then some (.tup [.agg (gwIc sd s.ncap), .c (.int .i64 0)], { s with ncap := s.ncap + 2 }) else none
      | none => none)
    | _ => none)
  | _ => none
def callG (hl : Bool) (sd : Int) (i0 i1 : Nat) : Call1 := fun f args s =>
  bif Nat.beq f 40 then rulesE hl sd i0 i1 args s else bif Nat.beq f 39 then newE sd args s else none
def setAt' : List AC → Nat → AC → List AC
  | [], _, _ => []
  | _ :: r, 0, v => v :: r
  | x :: r, n + 1, v => x :: setAt' r n v
theorem f2_set' {R : AC → Value → Prop} : ∀ {l : List AC} {m : List Value} (j : Nat) {x : AC} {y : Value}, F2 R l m → m[j]? = some y → R x y → F2 R (setAt' l j x) m
  | a :: l, b :: m, 0, x, y, h, hy, hr => by
    injection hy with hy
    subst hy
    exact ⟨hr, h.2⟩
  | a :: l, b :: m, j + 1, x, y, h, hy, hr => ⟨h.1, f2_set' j h.2 (by simpa using hy) hr⟩
  | [], [], j, x, y, h, hy, hr => trivial
  | [], _ :: _, j, x, y, h, hy, hr => h.elim
  | _ :: _, [], j, x, y, h, hy, hr => h.elim
/-- What Rules has yielded, told of nowhere. -/
def K0 (hl : Bool) (sd : Int) (q : Ls) (ga : Nat) (row : Array Value) (N : Nat) (v : Value) (ρ : Rho) (w : World) : Prop := ∃ g B E wK, N ≤ B ∧ RulesOK hl sd q ga row g B E w v ∧ KP (fun b => B ≤ b ∧ b < E) wK ρ w
/-- What a gateway keeps. -/
def Deep (DK : Nat → Prop) (wK : World) (m4 m5 : Nat) : Prop := Refl 62 (sliceOf m4) DK wK ∧ Refl 63 (sliceOf m5) DK wK
/-- A new gateway's value. -/
def K1 (N : Nat) (u : Value) (ρ : Rho) (w : World) : Prop := ∃ (DK : Nat → Prop) (wK : World) (cs : Array Value) (m4 m5 : Nat), u = .tuple #[.agg cs, .int .i64 0] ∧ cs[4]? = some (sliceOf m4) ∧ cs[5]? = some (sliceOf m5) ∧ KP DK wK ρ w ∧ wK.heap.size ≤ w.heap.size ∧ Deep DK wK m4 m5 ∧ ∀ b, DK b → N ≤ b
theorem k0_below {sd : Int} {N : Nat} (v : Value) (ρ : Rho) (w : World) (ρ' : Rho) (w' : World) (h : K0 hl sd q ga row N v ρ w) (hb : RowKit.Below w.heap.size w w') (hk : ∀ DK wK, KP DK wK ρ w → KP DK wK ρ' w') : K0 hl sd q ga row N v ρ' w' := by
  obtain ⟨g, B, E, wK, h0, h1, h2⟩ := h
  exact ⟨g, B, E, wK, h0, rulesOK_below h1 hb, hk _ _ h2⟩
theorem kp_blk {DK : Nat → Prop} {wK : World} {ρ ρ' : Rho} {w : World} (h : KP DK wK ρ w) (hb : ∀ i, ρ'.blk i = ρ.blk i) : KP DK wK ρ' w := ⟨h.lt, h.eq, fun b hd i => by rw [hb]; exact h.no b hd i⟩
theorem k0_blk {sd : Int} {N : Nat} (v : Value) (ρ ρ' : Rho) (w : World) (h : K0 hl sd q ga row N v ρ w) (hb : ∀ i, ρ'.blk i = ρ.blk i) : K0 hl sd q ga row N v ρ' w := by
  obtain ⟨g, B, E, wK, h0, h1, h2⟩ := h
  exact ⟨g, B, E, wK, h0, h1, kp_blk h2 hb⟩
theorem k1_step {N : Nat} (u : Value) (ρ : Rho) (w : World) (ρ' : Rho) (w' : World) (h : K1 N u ρ w) (hs : w.heap.size ≤ w'.heap.size) (hk : ∀ DK wK, KP DK wK ρ w → KP DK wK ρ' w') : K1 N u ρ' w' := by
  obtain ⟨DK, wK, cs, m4, m5, h1, h2, h3, h4, h5, h6⟩ := h
  exact ⟨DK, wK, cs, m4, m5, h1, h2, h3, hk _ _ h4, Nat.le_trans h5 hs, h6⟩
theorem k1_blk {N : Nat} (u : Value) (ρ ρ' : Rho) (w : World) (h : K1 N u ρ w) (hb : ∀ i, ρ'.blk i = ρ.blk i) : K1 N u ρ' w := by
  obtain ⟨DK, wK, cs, m4, m5, h1, h2, h3, h4, h5⟩ := h
  exact ⟨DK, wK, cs, m4, m5, h1, h2, h3, kp_blk h4 hb, h5⟩
theorem rulesE_ok {sd : Int} (hsd : sd = 0 ∨ sd = 1) {N : Nat} (hL : LsOK hl q ga row) {args : List AV} {s s1 : St} {v : AV} (h : callG hl sd i0 i1 40 args s = some (v, s1)) (ρ : Rho) (w : World) (vals : Array Value) (hv : F2 (VR (vL V0 q ga row b p) ρ) args vals.toList) (hr : Rep (vL V0 q ga row b p) ρ s w) (hf : Free ρ s s1) (hN : N ≤ w.heap.size) :
    Calls Try.prog 40 vals w fun e w' => ∃ c ρ', e = .returned c ∧ Goes (vL V0 q ga row b p) ρ s w s1 w' ρ' ∧ VR (vL V0 q ga row b p) ρ' v c ∧ K0 hl sd q ga row N c ρ w' := by
  unfold callG at h
  simp only [Nat.beq_refl, cond_true] at h
  unfold rulesE at h
  split at h
  · rename_i i side
    cases hk : (Nat.beq i i0 && (decide (side = sd) && codesIn hl i0 i1 s 900))
    · simp [hk] at h
    · simp only [hk, cond_true, Option.some.injEq, Prod.mk.injEq] at h
      obtain ⟨rfl, rfl⟩ := h
      simp only [Bool.and_eq_true, decide_eq_true_eq] at hk
      obtain ⟨k1, k9, k2⟩ := hk
      have k1 := Nat.eq_of_beq_eq_true k1
      subst k1
      subst k9
      obtain ⟨c0, c1⟩ := codesIn_ok k2
      obtain ⟨g, p', hb, hC⟩ := rep_some hL hr c0 c1
      have hvals : vals = #[.pointer (some ⟨g, 0, none⟩), .int .i64 side] := by
        apply Array.ext'
        match hl : vals.toList, hv with
        | [x, y], hv =>
          obtain ⟨b', e0, e1⟩ := hv.1
          rw [hb] at e0
          injection e0 with e0
          subst e0
          have e2 : y = .int .i64 side := hv.2.1
          rw [e1, e2]
      subst hvals
      have hrow : RowIn hl ga row w := fun e => (rep_list hr (c1 e)).2
      have hne : hl = true → ga ≠ g := by
        intro e he
        have h1 := hrow e
        have h2 : MBlk w g 84 #[.slice q.A q.n q.cap, .int .i64 (p' : Nat)] := hC.2.2.1
        subst he
        unfold MBlk Go.Proofs.Ytddiclnkfhldlaa.Blk at h1 h2
        rw [h1] at h2
        injection h2 with h2
        injection h2 with _ h2
        exact absurd h2 (by decide)
      refine (rules_any hL hC hrow hne hsd).mono ?_
      rintro e w' ⟨c, rfl, hR, ⟨p2, hC'⟩, hg, _⟩
      exact ⟨c, ρ, rfl, go_codes hr c0 hb hg hC'.2.2.1 (pb_some hC'.1), trivial, g, w.heap.size, w'.heap.size, w', hN, hR, fun b hb => hb.2, fun b _ => rfl, fun b hb i e => by
        have := hr.bnd i b e
        omega⟩
  · cases h
theorem gwIc_f2 {V : Nat → Value} {ρ : Rho} {id : Int} {cs : Array Value} {c m4 m5 : Nat} (h : F2 (CR V ρ) (gwI id) cs.toList) (h4 : cs[4]? = some (sliceOf m4)) (h5 : cs[5]? = some (sliceOf m5)) (c4 : ρ.cap c = some m4) (c5 : ρ.cap (c + 1) = some m5) : F2 (CR V ρ) (gwIc id c) cs.toList := by
  have e : gwIc id c = setAt' (setAt' (gwI id) 4 (.cv c)) 5 (.cv (c + 1)) := rfl
  rw [e]
  refine f2_set' 5 (f2_set' 4 h ?_ ⟨m4, c4, rfl⟩) ?_ ⟨m5, c5, rfl⟩
  · rw [Array.getElem?_toList]; exact h4
  · rw [Array.getElem?_toList]; exact h5
theorem newE_ok {sd : Int} (hsd : sd = 0 ∨ sd = 1) {N : Nat} {V : Nat → Value} {args : List AV} {s s1 : St} {v : AV} (h : callG hl sd i0 i1 39 args s = some (v, s1)) (ρ : Rho) (w : World) (vals : Array Value) (hv : F2 (VR V ρ) args vals.toList) (hr : Rep V ρ s w) (hf : Free ρ s s1) (hK : K0 hl sd q ga row N (vals.toList[3]?.getD undef) ρ w) (hN : N ≤ w.heap.size) :
    Calls Try.prog 39 vals w fun e w' => ∃ c ρ', e = .returned c ∧ Goes V ρ s w s1 w' ρ' ∧ VR V ρ' v c ∧ K1 N c ρ w' := by
  unfold callG at h
  have hb0 : Nat.beq 39 40 = false := by decide
  simp only [hb0, cond_false, Nat.beq_refl, cond_true] at h
  unfold newE at h
  split at h
  · rename_i id lo re j n c
    split at h
    · rename_i ty cells hlook
      split at h
      · rename_i l hints
        cases hk : (Nat.beq ty 3 && Nat.beq l.length n && Nat.beq n c && (Nat.beq n 1 || Nat.beq n 2) && (decide (id = sd) && (decide (lo = 1 + sd) && decide (re = 2 - sd))))
        · rw [hk] at h
          cases h
        · rw [hk] at h
          simp only [cond_true, Option.some.injEq, Prod.mk.injEq] at h
          obtain ⟨rfl, rfl⟩ := h
          simp only [Bool.and_eq_true, Bool.or_eq_true, decide_eq_true_eq] at hk
          obtain ⟨⟨⟨⟨k1, k2⟩, k3⟩, k4⟩, rfl, rfl, rfl⟩ := hk
          have k1 := Nat.eq_of_beq_eq_true k1
          have k2 := Nat.eq_of_beq_eq_true k2
          have k3 := Nat.eq_of_beq_eq_true k3
          subst k1
          subst k3
          subst k2
          obtain ⟨gg, cs, g1, g2, pre, post, g3, g4, g5⟩ := hr.h j _ hlook
          have g5 : post = [] := g5
          subst g5
          have hpre := ints_ok hints g4
          rw [List.append_nil, hpre] at g3
          have hcs : cs = (l.map (Value.int .i64)).toArray := Array.ext' (by rw [g3])
          subst hcs
          obtain ⟨g, B, E, wK, hNB, hR, hKP⟩ := hK
          have hvals : vals = #[.int .i64 id, .int .i64 (1 + id), .int .i64 (2 - id), vals.toList[3]?.getD undef, .slice (some ⟨gg, 0, none⟩) l.length l.length] := by
            apply Array.ext'
            match hl : vals.toList, hv with
            | [x0, x1, x2, x3, x4], hv =>
              have e0 : x0 = .int .i64 id := hv.1
              have e1 : x1 = .int .i64 (1 + id) := hv.2.1
              have e2 : x2 = .int .i64 (2 - id) := hv.2.2.1
              obtain ⟨b', m, e4, e5, _, e6⟩ := hv.2.2.2.2.1
              rw [g1] at e4
              injection e4 with e4
              subst e4
              have e5 : m = l.length := e5
              subst e5
              rw [e0, e1, e2, e6]
              simp
          rw [hvals]
          refine (new_gw hsd hR (l := l) (gg := gg) ?_ g2).mono ?_
          · rcases k4 with k4 | k4
            · exact .inl (Nat.eq_of_beq_eq_true k4)
            · exact .inr (Nat.eq_of_beq_eq_true k4)
          · rintro e w' ⟨cs, rfl, hG, hb, DK, m4, m5, u4, u5, d4, d5, hD⟩
            have c0 : ρ.cap s.ncap = none := hf.c _ (Nat.le_refl _) (by show s.ncap < s.ncap + 2; omega)
            have c1 : (ρ.setC s.ncap m4).cap (s.ncap + 1) = none := by
              show (if s.ncap + 1 = s.ncap then some m4 else ρ.cap (s.ncap + 1)) = none
              rw [if_neg (by omega)]
              exact hf.c _ (by omega) (by show s.ncap + 1 < s.ncap + 2; omega)
            have g0 := goes_keep hr hb
            have g1' := goes_cap g0.1 c0 m4
            have g2' := goes_cap g1'.1 c1 m5
            refine ⟨_, _, rfl, (g0.trans V g1').trans V g2', ⟨#[.agg cs, .int .i64 0], rfl, ⟨cs, rfl, ?_⟩, rfl, trivial⟩, DK, w', cs, m4, m5, rfl, u4, u5, ⟨fun b hb' => (hD b hb').1, fun _ _ => rfl, fun b hb' i e => ?_⟩, Nat.le_refl _, ⟨d4, d5⟩, fun b hb' => ?_⟩
            · have hG0 := hG V ((ρ.setC s.ncap m4).setC (s.ncap + 1) m5)
              refine gwIc_f2 hG0 u4 u5 ?_ ?_
              · show (if s.ncap = s.ncap + 1 then some m5 else if s.ncap = s.ncap then some m4 else ρ.cap s.ncap) = some m4
                rw [if_neg (by omega), if_pos rfl]
              · show (if s.ncap + 1 = s.ncap + 1 then some m5 else _) = some m5
                rw [if_pos rfl]
            · rcases (hD b hb').2 with h9 | h9
              · have := hr.bnd i b e
                omega
              · exact hKP.no b h9 i e
            · rcases (hD b hb').2 with h9 | h9
              · omega
              · omega
      · cases h
    · cases h
  · cases h
noncomputable def envG (hl : Bool) : Env := env noTab noCvt (onlyE envZ (nextW hl 0 1))
def twoA : Two := ⟨1, 40, 19, 9, 39, 3⟩
def twoB : Two := ⟨1, 40, 32, 9, 39, 3⟩
end
end Ab
end Go.Proofs.Ytddiclnkfhldlaa
