/-
  The contracts of Rules and New, one behind the other.
  Conditions: none.
-/
import Derived.Test.YtddiclnkfhldlaaGwNA
import Derived.Test.YtddiclnkfhldlaaGwNB
import Derived.Test.YtddiclnkfhldlaaGwNC
import Derived.Test.YtddiclnkfhldlaaGwND
import Derived.Test.YtddiclnkfhldlaaGwNE
import Derived.Test.YtddiclnkfhldlaaGwNF
import Derived.Test.YtddiclnkfhldlaaGwNG
namespace Go.Proofs.Ytddiclnkfhldlaa
namespace Ab
open Go.RowKit
set_option linter.unusedVariables false
section
variable {q : Ls} {ga : Nat} {row : Array Value} {hl : Bool}
def V1 : Nat → Value := fun _ => .bool true
theorem V1_one (i : Nat) : (V1 i).oneCell' = true := rfl
/-- The values here. -/
abbrev VG (q : Ls) (ga : Nat) (row : Array Value) : Nat → Value := vL V1 q ga row 0 0
/-- The choices' row lies here. -/
def RowIn (hl : Bool) (ga : Nat) (row : Array Value) (w : World) : Prop := hl = true → MBlk w ga 5 row
theorem envZ_ok {V : Nat → Value} (h1 : ∀ i, (V i).oneCell' = true) : EnvOK Try.prog V envZ ∧ ExtOK Try.prog V envZ := ⟨env_ok (fun op a b z h => (by cases h)) (fun k i z h => (by cases h)) h1, noExt_ok rfl⟩
theorem envX_ok {V : Nat → Value} (h1 : ∀ i, (V i).oneCell' = true) {x : Nat → List AV → St → Option (AV × St)} (hx : CallOK Try.prog V x) : EnvOK Try.prog V (env noTab noCvt (onlyE envZ x)) ∧ ExtOK Try.prog V (env noTab noCvt (onlyE envZ x)) := ⟨env_ok (fun op a b z h => (by cases h)) (fun k i z h => (by cases h)) h1, onlyE_ok hx rfl rfl⟩
theorem mm_mem1 {E : Env} {x : MM} (h : mmOK E x = true) : ∀ y ∈ [x], mmOK E y = true := fun y hy => by
  rw [List.mem_singleton.1 hy]
  exact h
theorem extA_ok {V0 : Nat → Value} {b p : Nat} {i0 i1 : Nat} (hL : LsOK hl q ga row) (h1 : ∀ i, (V0 i).oneCell' = true) : CallOK Try.prog (vL V0 q ga row b p) (extA hl i0 i1) :=
  orE_ok (nextW_ok hL) (mmE_ok (envZ_ok (vL_one h1 b p)).1 (envZ_ok (vL_one h1 b p)).2 (mm_mem1 rAddr))
theorem rBox_all (hl : Bool) : ∀ x ∈ [mBox], cmOK hl (envA hl) x = true := fun x hx => by
  rw [List.mem_singleton.1 hx]
  cases hl
  · exact rBoxF
  · exact rBoxT
theorem extB_ok {V0 : Nat → Value} {b p : Nat} {i0 i1 : Nat} (hL : LsOK hl q ga row) (h1 : ∀ i, (V0 i).oneCell' = true) : CallOK Try.prog (vL V0 q ga row b p) (extB hl i0 i1) :=
  have hA := envX_ok (vL_one h1 b p) (extA_ok (b := b) (p := p) (i0 := 0) (i1 := 1) hL h1)
  orE_ok (nextW_ok hL) (orE_ok (cmE_ok hL h1 hA.1 hA.2 (rBox_all hl)) (mmE_ok (envZ_ok (vL_one h1 b p)).1 (envZ_ok (vL_one h1 b p)).2 (mm_mem1 rAddr)))
theorem names_all : ∀ x ∈ [mName sGold, mName sSilver], mmOK envZ x = true := fun x hx => by
  simp only [List.mem_cons, List.not_mem_nil, or_false] at hx
  rcases hx with rfl | rfl
  · exact rNameG
  · exact rNameS
theorem extK_ok {V : Nat → Value} (h1 : ∀ i, (V i).oneCell' = true) : CallOK Try.prog V extK :=
  orE_ok (boxE_ok h1) (mmE_ok (envZ_ok h1).1 (envZ_ok h1).2 names_all)
theorem envNw_ok {V : Nat → Value} (h1 : ∀ i, (V i).oneCell' = true) : EnvOK Try.prog V envNw ∧ ExtOK Try.prog V envNw :=
  have hK := envX_ok h1 (extK_ok h1)
  envX_ok h1 (orE_ok (roM_ok hK.1 hK.2) (extK_ok h1))
/-- The choices alone, from memory. -/
theorem rep_start (hL : LsOK hl q ga row) {w : World} {g p : Nat} (hC : Cod w g q p) (hB : RowIn hl ga row w) (hne : hl = true → ga ≠ g) :
    ∃ ρ, Rep (VG q ga row) ρ (sC hl) w ∧ Clean ρ (sC hl) ∧ ρ.blk 0 = some g ∧ ∀ i b, ρ.blk i = some b → b = g ∨ (hl = true ∧ b = ga) := by
  have hcs : MBlk w g 84 #[.slice q.A q.n q.cap, .int .i64 (p : Nat)] := hC.2.2.1
  have code : ∀ ρ', BR (VG q ga row) ρ' g ⟨84, [], some (900, 0)⟩ #[.slice q.A q.n q.cap, .int .i64 (p : Nat)] := fun ρ' => ⟨[], _, by simp; rfl, trivial, rfl, pb_some hC.1⟩
  cases hl with
  | false =>
    refine ⟨⟨fun i => if i = 0 then some g else none, fun _ => none⟩, ⟨?_, ?_, ?_, ?_⟩, ⟨fun i hi => ?_, fun _ _ => rfl⟩, rfl, fun i b h => ?_⟩
    · intro i B h
      simp only [sC, cond_false, look_cons] at h
      by_cases e : 0 = i
      · rw [if_pos e, Option.some.injEq] at h
        subst h
        subst e
        exact ⟨g, _, rfl, hcs, code _⟩
      · rw [if_neg e] at h
        cases h
    · intro i j B C b hi hj h1 h2
      simp only at h1 h2
      split at h1
      · rename_i e
        split at h2
        · rename_i e'
          omega
        · cases h2
      · cases h1
    · intro i b h
      simp only at h
      split at h
      · injection h with h
        subst h
        exact hC.lt
      · cases h
    · intro i B h
      simp only [sC, cond_false, look_cons] at h
      by_cases e : 0 = i
      · subst e
        simp [sC]
      · rw [if_neg e] at h
        cases h
    · simp only [sC] at hi
      show (if i = 0 then _ else _) = _
      rw [if_neg (by omega)]
    · simp only at h
      split at h
      · injection h with h
        exact .inl h.symm
      · cases h
  | true =>
    have hrow := hB rfl
    refine ⟨⟨fun i => if i = 0 then some g else if i = 1 then some ga else none, fun _ => none⟩, ⟨?_, ?_, ?_, ?_⟩, ⟨fun i hi => ?_, fun _ _ => rfl⟩, rfl, fun i b h => ?_⟩
    · intro i B h
      simp only [sC, cond_true, look_cons] at h
      by_cases e : 0 = i
      · rw [if_pos e, Option.some.injEq] at h
        subst h
        subst e
        exact ⟨g, _, rfl, hcs, code _⟩
      · rw [if_neg e] at h
        by_cases e1 : 1 = i
        · rw [if_pos e1, Option.some.injEq] at h
          subst h
          subst e1
          exact ⟨ga, row, rfl, hrow, [], _, by simp; rfl, trivial, rfl, .inl rfl⟩
        · rw [if_neg e1] at h
          cases h
    · intro i j B C b hi hj h1 h2
      simp only at h1 h2
      have := hne rfl
      by_cases i0 : i = 0
      · by_cases j0 : j = 0
        · omega
        · rw [if_pos i0] at h1
          rw [if_neg j0] at h2
          split at h2
          · injection h1 with h1
            injection h2 with h2
            exact absurd (h2.trans h1.symm) this
          · cases h2
      · rw [if_neg i0] at h1
        split at h1
        · rename_i e1
          by_cases j0 : j = 0
          · rw [if_pos j0] at h2
            injection h1 with h1
            injection h2 with h2
            exact absurd (h1.trans h2.symm) this
          · rw [if_neg j0] at h2
            split at h2
            · omega
            · cases h2
        · cases h1
    · intro i b h
      simp only at h
      split at h
      · injection h with h
        subst h
        exact hC.lt
      · split at h
        · injection h with h
          subst h
          exact hrow.lt
        · cases h
    · intro i B h
      simp only [sC, cond_true, look_cons] at h
      by_cases e : 0 = i
      · subst e
        simp [sC]
      · rw [if_neg e] at h
        by_cases e1 : 1 = i
        · subst e1
          simp [sC]
        · rw [if_neg e1] at h
          cases h
    · simp only [sC] at hi
      show (if i = 0 then _ else if i = 1 then _ else _) = _
      rw [if_neg (by omega), if_neg (by omega)]
    · simp only at h
      split at h
      · injection h with h
        exact .inl h.symm
      · split at h
        · injection h with h
          exact .inr ⟨rfl, h.symm⟩
        · cases h
theorem f2_at {V : Nat → Value} {ρ : Rho} : ∀ {l : List AC} {m : List Value}, F2 (CR V ρ) l m → ∀ (i : Nat) {x : AC}, l[i]? = some x → ∃ z, m[i]? = some z ∧ CR V ρ x z
  | y :: l, v :: m, h, 0, x, hx => by
    injection hx with hx
    subst hx
    exact ⟨v, rfl, h.1⟩
  | y :: l, v :: m, h, i + 1, x, hx => by
    obtain ⟨z, h1, h2⟩ := f2_at h.2 i (x := x) hx
    exact ⟨z, h1, h2⟩
  | [], _, _, i, x, hx => by cases hx
  | _ :: _, [], h, _, _, _ => h.elim
theorem f2_one {V : Nat → Value} (h1 : ∀ i, (V i).oneCell' = true) {ρ : Rho} : ∀ {l : List AC} {m : List Value}, F2 (CR V ρ) l m → ∀ v ∈ m, v.oneCell' = true
  | y :: l, v :: m, h, u, hu => by
    rcases List.mem_cons.1 hu with rfl | hu
    · exact CR.one V h1 h.1
    · exact f2_one h1 h.2 u hu
  | _, [], _, u, hu => by cases hu
  | [], _ :: _, h, _, _ => h.elim
theorem rRulesLT : (match rulesOut true with | some l => Nat.ble l.length 28 | none => false) = true := by kernel_rfl
theorem rRulesLF : (match rulesOut false with | some l => Nat.ble l.length 28 | none => false) = true := by kernel_rfl
/-- A value that Rules has made; its memory lies from block B on. -/
def RulesOK (hl : Bool) (q : Ls) (ga : Nat) (row : Array Value) (g B : Nat) (w : World) (v : Value) : Prop :=
  ∃ l, rulesOut hl = some l ∧ ∃ x ∈ l, ∃ ρ, Rep (VG q ga row) ρ x.2 w ∧ Clean ρ x.2 ∧ VR (VG q ga row) ρ x.1 v ∧ ∀ i b, ρ.blk i = some b → B ≤ b ∨ b = g ∨ (hl = true ∧ b = ga)
theorem rulesOK_below {g B : Nat} {w w' : World} {v : Value} (h : RulesOK hl q ga row g B w v) (hb : RowKit.Below w.heap.size w w') : RulesOK hl q ga row g B w' v := by
  obtain ⟨l, h1, x, h2, ρ, h3, h4, h5, h6⟩ := h
  exact ⟨l, h1, x, h2, ρ, (goes_keep h3 hb).1, h4, h5, h6⟩
/-- What codes a state tells, from memory. -/
theorem codes_back (hL : LsOK hl q ga row) {ρ : Rho} {s : St} {w : World} (hr : Rep (VG q ga row) ρ s w) (h : codesIn hl 0 1 s 900 = true) {g : Nat} (hg : ρ.blk 0 = some g) : ∃ p, Cod w g q p := by
  obtain ⟨c0, c1⟩ := codesIn_ok h
  obtain ⟨g', p', e, hC⟩ := rep_some hL hr c0 c1
  rw [hg] at e
  injection e with e
  subst e
  exact ⟨p', hC⟩
theorem rRulesOnT : (match rulesOut true with | some l => l.all (fun x => onC true x.2) | none => false) = true := by kernel_rfl
theorem rRulesOnF : (match rulesOut false with | some l => l.all (fun x => onC false x.2) | none => false) = true := by kernel_rfl
theorem rules_on (hl : Bool) : ∃ l, rulesOut hl = some l ∧ ∀ x ∈ l, onC hl x.2 = true := by
  have key : (match rulesOut hl with | some l => l.all (fun x => onC hl x.2) | none => false) = true := by
    cases hl
    · exact rRulesOnF
    · exact rRulesOnT
  split at key
  · rename_i l hl'
    exact ⟨l, hl', fun x hx => List.all_eq_true.1 key x hx⟩
  · cases key
theorem newsOK_at {hl : Bool} {a : Nat} (h : newsOK hl a 2 = true) {l : List (AV × St)} (hl' : rulesOut hl = some l) {x : AV × St} {i : Nat} (hi : l[i]? = some x) (h1 : a ≤ i) (h2 : i < a + 2) : newOK 0 1 2 1 x = true ∧ newOK 0 1 2 2 x = true ∧ newOK 1 2 1 1 x = true ∧ newOK 1 2 1 2 x = true := by
  unfold newsOK at h
  rw [hl'] at h
  simp only at h
  have hm : x ∈ (l.drop a).take 2 := by
    refine List.mem_iff_getElem?.2 ⟨i - a, ?_⟩
    rw [List.getElem?_take, if_pos (by omega), List.getElem?_drop]
    rw [show a + (i - a) = i by omega]
    exact hi
  have := List.all_eq_true.1 h x hm
  simp only [Bool.and_eq_true] at this
  exact ⟨this.1.1.1, this.1.1.2, this.1.2, this.2⟩
theorem news_all (hl : Bool) {l : List (AV × St)} (h : rulesOut hl = some l) : ∀ x ∈ l, newOK 0 1 2 1 x = true ∧ newOK 0 1 2 2 x = true ∧ newOK 1 2 1 1 x = true ∧ newOK 1 2 1 2 x = true := by
  have hlen : l.length ≤ 28 := by
    have hc : (match rulesOut hl with | some l => Nat.ble l.length 28 | none => false) = true := by
      cases hl
      · exact rRulesLF
      · exact rRulesLT
    rw [h] at hc
    exact Nat.le_of_ble_eq_true hc
  intro x hx
  obtain ⟨i, hi⟩ := List.mem_iff_getElem?.1 hx
  have hil : i < l.length := (List.getElem?_eq_some_iff.1 hi).1
  rcases (by omega : ((0 ≤ i) ∧ i < 0 + 2) ∨ ((2 ≤ i) ∧ i < 2 + 2) ∨ ((4 ≤ i) ∧ i < 4 + 2) ∨ ((6 ≤ i) ∧ i < 6 + 2) ∨ ((8 ≤ i) ∧ i < 8 + 2) ∨ ((10 ≤ i) ∧ i < 10 + 2) ∨ ((12 ≤ i) ∧ i < 12 + 2) ∨ ((14 ≤ i) ∧ i < 14 + 2) ∨ ((16 ≤ i) ∧ i < 16 + 2) ∨ ((18 ≤ i) ∧ i < 18 + 2) ∨ ((20 ≤ i) ∧ i < 20 + 2) ∨ ((22 ≤ i) ∧ i < 22 + 2) ∨ ((24 ≤ i) ∧ i < 24 + 2) ∨ ((26 ≤ i) ∧ i < 26 + 2)) with ⟨h1, h2⟩ | ⟨h1, h2⟩ | ⟨h1, h2⟩ | ⟨h1, h2⟩ | ⟨h1, h2⟩ | ⟨h1, h2⟩ | ⟨h1, h2⟩ | ⟨h1, h2⟩ | ⟨h1, h2⟩ | ⟨h1, h2⟩ | ⟨h1, h2⟩ | ⟨h1, h2⟩ | ⟨h1, h2⟩ | ⟨h1, h2⟩
  · cases hl
    · exact newsOK_at rNews_f0 h hi h1 h2
    · exact newsOK_at rNews_t0 h hi h1 h2
  · cases hl
    · exact newsOK_at rNews_f2 h hi h1 h2
    · exact newsOK_at rNews_t2 h hi h1 h2
  · cases hl
    · exact newsOK_at rNews_f4 h hi h1 h2
    · exact newsOK_at rNews_t4 h hi h1 h2
  · cases hl
    · exact newsOK_at rNews_f6 h hi h1 h2
    · exact newsOK_at rNews_t6 h hi h1 h2
  · cases hl
    · exact newsOK_at rNews_f8 h hi h1 h2
    · exact newsOK_at rNews_t8 h hi h1 h2
  · cases hl
    · exact newsOK_at rNews_f10 h hi h1 h2
    · exact newsOK_at rNews_t10 h hi h1 h2
  · cases hl
    · exact newsOK_at rNews_f12 h hi h1 h2
    · exact newsOK_at rNews_t12 h hi h1 h2
  · cases hl
    · exact newsOK_at rNews_f14 h hi h1 h2
    · exact newsOK_at rNews_t14 h hi h1 h2
  · cases hl
    · exact newsOK_at rNews_f16 h hi h1 h2
    · exact newsOK_at rNews_t16 h hi h1 h2
  · cases hl
    · exact newsOK_at rNews_f18 h hi h1 h2
    · exact newsOK_at rNews_t18 h hi h1 h2
  · cases hl
    · exact newsOK_at rNews_f20 h hi h1 h2
    · exact newsOK_at rNews_t20 h hi h1 h2
  · cases hl
    · exact newsOK_at rNews_f22 h hi h1 h2
    · exact newsOK_at rNews_t22 h hi h1 h2
  · cases hl
    · exact newsOK_at rNews_f24 h hi h1 h2
    · exact newsOK_at rNews_t24 h hi h1 h2
  · cases hl
    · exact newsOK_at rNews_f26 h hi h1 h2
    · exact newsOK_at rNews_t26 h hi h1 h2
/-- Rules. -/
theorem rules_any (hL : LsOK hl q ga row) {w : World} {g p : Nat} (hC : Cod w g q p) (hB : RowIn hl ga row w) (hne : hl = true → ga ≠ g) (side : Int) :
    Calls Try.prog 40 #[.pointer (some ⟨g, 0, none⟩), .int .i64 side] w fun e w' => ∃ v, e = .returned v ∧ RulesOK hl q ga row g w.heap.size w' v ∧ (∃ p', Cod w' g q p') ∧ w.grownBy w' (some g) ∧ RowIn hl ga row w' := by
  obtain ⟨ρ, h1, h2, h3, h4⟩ := rep_start hL hC hB hne
  obtain ⟨l, hl1, hl2⟩ := rules_on hl
  have hX := envX_ok (vL_one V1_one 0 0) (extB_ok (b := 0) (p := 0) (i0 := 0) (i1 := 1) hL V1_one)
  have hv : F2 (VR (VG q ga row) ρ) (argC [num]) #[.pointer (some ⟨g, 0, none⟩), .int .i64 side].toList := ⟨⟨g, h3, rfl⟩, ⟨side, rfl⟩, trivial⟩
  have hl1' := hl1
  unfold rulesOut at hl1'
  refine (runM_ok hX.1 hX.2 hl1' rfl hv h1 h2).mono ?_
  rintro e w' ⟨x, hx, c, ρ', rfl, hg, hc⟩
  have hon := hl2 x hx
  simp only [onC, Bool.and_eq_true] at hon
  have hd : ∀ j ∈ x.2.dirty, j = 0 := fun j hj => Nat.eq_of_beq_eq_true (List.all_eq_true.1 hon.2 j hj)
  have h0 : ρ'.blk 0 = some g := by
    rw [hg.2.1.blk 0 (.inl (by simp [sC]))]
    exact h3
  have hgr : w.grownBy w' (some g) := ⟨hg.2.1.os, hg.2.1.tape, hg.2.1.out, hg.2.1.size, fun i hi hne => hg.2.1.fr i hi (fun j hj _ => by
    rw [hd j hj, h3]
    exact fun e => hne (by injection e with e; rw [e]))⟩
  refine ⟨c, rfl, ⟨l, hl1, x, hx, ρ', hg.1, h2.goes hg, hc, fun i b hb => ?_⟩, codes_back hL hg.1 hon.1 h0, hgr, fun e => (hB e).grown hgr (fun e' => hne e (by injection e'))⟩
  by_cases hi : i < (sC hl).next ∨ x.2.next ≤ i
  · rw [hg.2.1.blk i hi] at hb
    exact .inr (h4 i b hb)
  · rcases hg.2.1.new i b (by omega) (by omega) hb with h | ⟨j, hj, _, hjb⟩
    · exact .inl h
    · rw [hd j hj, h3] at hjb
      injection hjb with hjb
      exact .inr (.inl hjb.symm)
/-- The cells of a gateway. -/
def GwV (cs : Array Value) : Prop := cs.size = 19 ∧ (∀ v ∈ cs.toList, v.oneCell' = true) ∧ cs[6]? = some (.int .i64 0) ∧ cs[15]? = some (.slice none 0 0)
theorem nums_f2 {V : Nat → Value} {ρ : Rho} : ∀ (l : List Int), F2 (CR V ρ) (nums l.length) (l.map (Value.int .i64))
  | [] => trivial
  | x :: l => ⟨⟨x, rfl⟩, nums_f2 l⟩
def noIntH (H : List (Nat × Blk)) : Bool := H.all fun x => !(Nat.beq x.2.ty 3)
theorem rRulesTyT : (match rulesOut true with | some l => l.all (fun x => noIntH x.2.heap) | none => false) = true := by kernel_rfl
theorem rRulesTyF : (match rulesOut false with | some l => l.all (fun x => noIntH x.2.heap) | none => false) = true := by kernel_rfl
theorem look_mem : ∀ {H : List (Nat × Blk)} {i : Nat} {B : Blk}, look H i = some B → (i, B) ∈ H
  | x :: r, i, B, h => by
    rw [look_cons] at h
    by_cases e : x.1 = i
    · rw [if_pos e, Option.some.injEq] at h
      rw [← e, ← h]
      exact List.mem_cons_self
    · rw [if_neg e] at h
      exact List.mem_cons_of_mem _ (look_mem h)
theorem rules_ty (hl : Bool) {l : List (AV × St)} (h : rulesOut hl = some l) : ∀ x ∈ l, ∀ i C, look x.2.heap i = some C → C.ty ≠ 3 := by
  have key : (match rulesOut hl with | some l => l.all (fun x => noIntH x.2.heap) | none => false) = true := by
    cases hl
    · exact rRulesTyF
    · exact rRulesTyT
  rw [h] at key
  intro x hx i C hC e
  have h1 := List.all_eq_true.1 key x hx
  have h2 := List.all_eq_true.1 h1 _ (look_mem hC)
  rw [e, Nat.beq_refl] at h2
  cases h2
/-- New. -/
theorem new_gw {g B : Nat} {w : World} {v : Value} (hR : RulesOK hl q ga row g B w v) {gg : Nat} {l : List Int} (hl2 : l.length = 1 ∨ l.length = 2) (hb : MBlk w gg 3 (l.map (Value.int .i64)).toArray) {id lo re : Int} (hid : (id = 0 ∧ lo = 1 ∧ re = 2) ∨ (id = 1 ∧ lo = 2 ∧ re = 1)) :
    Calls Try.prog 39 #[.int .i64 id, .int .i64 lo, .int .i64 re, v, .slice (some ⟨gg, 0, none⟩) l.length l.length] w fun e w' => ∃ cs k, e = .returned (.tuple #[.agg cs, .int .i64 k]) ∧ GwV cs ∧ RowKit.Below w.heap.size w w' := by
  obtain ⟨l0, h1, x, h2, ρ, h3, h4, h5, h6⟩ := hR
  obtain ⟨n1, n2, n3, n4⟩ := news_all hl h1 x h2
  have hnew : newOK id lo re l.length x = true := by
    rcases hid with ⟨e1, e2, e3⟩ | ⟨e1, e2, e3⟩
    · rcases hl2 with e | e
      · rw [e, e1, e2, e3]
        exact n1
      · rw [e, e1, e2, e3]
        exact n2
    · rcases hl2 with e | e
      · rw [e, e1, e2, e3]
        exact n3
      · rw [e, e1, e2, e3]
        exact n4
  have HN := Lib.hid hnew
  have hty := rules_ty hl h1 x h2
  clear hnew n1 n2 n3 n4 h1 h2
  have hfar : ∀ i C, look x.2.heap i = some C → ρ.blk i ≠ some gg := fun i C hC e => by
    obtain ⟨b, cs, k1, k2, _⟩ := h3.h i C hC
    rw [e] at k1
    injection k1 with k1
    subst k1
    unfold MBlk Go.Proofs.Ytddiclnkfhldlaa.Blk at hb
    rw [hb] at k2
    injection k2 with k2
    injection k2 with _ k2
    exact hty i C hC k2.symm
  have hle : Le ρ (ρ.setB x.2.next gg) := setB_le (h4.b _ (Nat.le_refl _))
  have hbl : ∀ j, (ρ.setB x.2.next gg).blk j = if j = x.2.next then some gg else ρ.blk j := fun _ => rfl
  have hr : Rep (VG q ga row) (ρ.setB x.2.next gg) (stN l.length x.2) w := by
    refine ⟨fun i C hC => ?_, fun i j C D b hC hD e1 e2 => ?_, fun i b e => ?_, fun i C hC => ?_⟩
    · simp only [stN, look_cons] at hC
      by_cases e : x.2.next = i
      · rw [if_pos e, Option.some.injEq] at hC
        subst hC
        exact ⟨gg, _, by rw [hbl, if_pos e.symm], hb, _, [], by simp, nums_f2 l, rfl⟩
      · rw [if_neg e] at hC
        obtain ⟨b, cs, k1, k2, pre, post, k3, k4, k5⟩ := h3.h i C hC
        refine ⟨b, cs, hle.1 _ _ k1, k2, pre, post, k3, k4.mono fun _ _ k => CR.mono _ hle k, ?_⟩
        unfold MR at k5 ⊢
        split
        · rename_i hm
          simp only [hm] at k5
          exact k5
        · rename_i j z hm
          simp only [hm] at k5
          exact k5
    · simp only [stN, look_cons] at hC hD
      rw [hbl] at e1 e2
      by_cases i1 : i = x.2.next
      · by_cases j1 : j = x.2.next
        · omega
        · rw [if_pos i1] at e1
          rw [if_neg j1] at e2
          injection e1 with e1
          subst e1
          rw [if_neg (Ne.symm j1)] at hD
          exact absurd e2 (hfar j D hD)
      · rw [if_neg i1] at e1
        by_cases j1 : j = x.2.next
        · rw [if_pos j1] at e2
          injection e2 with e2
          subst e2
          rw [if_neg (Ne.symm i1)] at hC
          exact absurd e1 (hfar i C hC)
        · rw [if_neg j1] at e2
          rw [if_neg (Ne.symm i1)] at hC
          rw [if_neg (Ne.symm j1)] at hD
          exact h3.inj i j C D b hC hD e1 e2
    · rw [hbl] at e
      split at e
      · injection e with e
        subst e
        exact hb.lt
      · exact h3.bnd i b e
    · simp only [stN, look_cons] at hC ⊢
      by_cases e : x.2.next = i
      · omega
      · rw [if_neg e] at hC
        have := h3.lt i C hC
        omega
  have hcl : Clean (ρ.setB x.2.next gg) (stN l.length x.2) := ⟨fun i hi => by
    simp only [stN] at hi
    rw [hbl, if_neg (by omega)]
    exact h4.b i (by omega), fun i hi => h4.c i hi⟩
  have hv : F2 (VR (VG q ga row) (ρ.setB x.2.next gg)) (argN id lo re l.length x) #[.int .i64 id, .int .i64 lo, .int .i64 re, v, .slice (some ⟨gg, 0, none⟩) l.length l.length].toList :=
    ⟨rfl, rfl, rfl, h5.mono _ hle, ⟨gg, l.length, by rw [hbl, if_pos rfl], rfl, Nat.le_refl _, rfl⟩, trivial⟩
  have hnew := HN.out
  unfold newOK at hnew
  split at hnew
  · rename_i out hout
    have hE := envNw_ok (V := VG q ga row) (vL_one V1_one 0 0)
    refine (runM_ok hE.1 hE.2 hout rfl hv hr hcl).mono ?_
    rintro e w' ⟨y, hy, c, ρ', rfl, hg, hc⟩
    have hk := List.all_eq_true.1 hnew y hy
    simp only [Bool.and_eq_true] at hk
    have h8 := subX_ok (V := VG q ga row) (vL_one V1_one 0 0) hk.1 hc
    obtain ⟨vs, rfl, h9⟩ := h8
    match hvs : vs.toList, h9 with
    | [u, u'], h9 =>
      obtain ⟨⟨cs, rfl, k1⟩, ⟨k, rfl⟩, _⟩ := h9
      have e : vs = #[.agg cs, .int .i64 k] := Array.ext' hvs
      subst e
      refine ⟨cs, k, rfl, ?_, same_world hg (List.isEmpty_iff.1 hk.2)⟩
      have hsz : cs.size = 19 := by
        have := k1.length
        simpa [gwC] using this.symm
      refine ⟨hsz, fun v hv => ?_, ?_, ?_⟩
      · exact f2_one (vL_one V1_one 0 0) k1 v hv
      · obtain ⟨z, z1, z2⟩ := f2_at k1 6 (x := .int .i64 0) rfl
        have z2 : z = .int .i64 0 := z2
        rw [← Array.getElem?_toList, z1, z2]
      · obtain ⟨z, z1, z2⟩ := f2_at k1 15 (x := .slice none 0 (.lit 0)) rfl
        obtain ⟨m, m1, m2, m3⟩ := z2
        have m1 : m = 0 := m1
        subst m1
        rw [← Array.getElem?_toList, z1, m3]
  · cases hnew
end
end Ab
end Go.Proofs.Ytddiclnkfhldlaa
