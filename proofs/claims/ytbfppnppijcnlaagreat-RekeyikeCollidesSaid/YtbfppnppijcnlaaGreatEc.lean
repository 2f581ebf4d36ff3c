/-
  Behind the connection, with a number of the law added to a count: symbols that are sums, Lower on names, a law that goes on from a state told anew.
  Conditions: none.
-/
import Derived.Test.YtbfppnppijcnlaaGreatEm
import Derived.Test.YtbfppnppijcnlaaGreatLwr
namespace Go.Proofs.YtbfppnppijcnlaaGreat
namespace Ab
open Go.RowKit
set_option linter.unusedVariables false
set_option linter.unusedSimpArgs false
set_option maxRecDepth 100000
--DEFS
/-- Symbols from here on are the law's number and what is added. -/
noncomputable def isC (j : Nat) : Bool := Nat.ble 10000000 j && Nat.blt j 20000000
noncomputable def cmpI (op : BinOp) (a b : Nat) : Option AC :=
  match op with
  | .eql => some (.bool (Nat.beq a b))
  | .neq => some (.bool (!(Nat.beq a b)))
  | .lss => some (.bool (Nat.blt a b))
  | .geq => some (.bool (!(Nat.blt a b)))
  | .gtr => some (.bool (Nat.blt b a))
  | .leq => some (.bool (!(Nat.blt b a)))
  | _ => none
/-- A sum, d to d + 255, against a number that is lower or higher. -/
noncomputable def farI (op : BinOp) (lowr : Bool) : Option AC :=
  match op with
  | .eql => some (.bool false)
  | .neq => some (.bool true)
  | .lss => some (.bool lowr)
  | .leq => some (.bool lowr)
  | .gtr => some (.bool (!lowr))
  | .geq => some (.bool (!lowr))
  | _ => none
noncomputable def tabC : BinOp → AC → AC → Option AC := fun op x y =>
  match x, y with
  | .sym i, .sym j => bif isC i && isC j then cmpI op i j else none
  | .sym i, .int .i64 c => bif isC i then (match op with
      | .add => bif decide (0 ≤ c) && decide (c ≤ 2000000) && isC (i + c.toNat) then some (.sym (i + c.toNat)) else none
      | op => bif decide (c < (i : Int) - 10000000) then farI op false else bif decide ((i : Int) - 10000000 + 255 < c) then farI op true else none) else none
  | .int .i64 c, .sym i => bif isC i then (match op with
      | .add => bif decide (0 ≤ c) && decide (c ≤ 2000000) && isC (i + c.toNat) then some (.sym (i + c.toNat)) else none
      | op => bif decide (c < (i : Int) - 10000000) then farI op true else bif decide ((i : Int) - 10000000 + 255 < c) then farI op false else none) else none
  | _, _ => none
noncomputable def cvtC (k : IntKind) (x : AC) : Option AC :=
  match k, x with
  | .i64, .sym 1 => some (.sym 10000000)
  | _, _ => none
noncomputable def acE : AC → AC → Bool
  | .sym i, .sym j => Nat.beq i j
  | .int .i64 a, .int .i64 b => decide (a = b)
  | _, _ => false
noncomputable def findLo : List (AC × AC × Bool) → AC → AC → Option Bool
  | [], _, _ => none
  | e :: r, x, y => bif acE e.1 x && acE e.2.1 y then some e.2.2 else findLo r x y
noncomputable def lowE (tl : List (AC × AC × Bool)) (f : Nat) (args : List AV) (s : St) : Option (AV × St) :=
  bif Nat.beq f 119 then
    (match args with
    | [.one (.agg [.int .i64 2, x, .slice none 0 (.lit 0)]), .one (.agg [.int .i64 2, y, .slice none 0 (.lit 0)])] => (match findLo tl x y with | some b => some (.one (.c (.bool b)), s) | none => none)
    | _ => none) else none
--END
section
variable {V : Nat → Value} {b : Int}
theorem isC_lt {j : Nat} (h : isC j = true) : 10000000 ≤ j ∧ j < 20000000 := by
  unfold isC at h
  simp only [Bool.and_eq_true] at h
  exact ⟨Nat.le_of_ble_eq_true h.1, Nat.le_of_ble_eq_true h.2⟩
/-- What the sums are. -/
noncomputable def VC (V : Nat → Value) (b : Int) : Nat → Value := fun j => if 10000000 ≤ j then .int .i64 (b + ((j : Int) - 10000000)) else V j
theorem VC_is (hb : 0 ≤ b ∧ b ≤ 255) {j : Nat} (h : isC j = true) : VC V b j = .int .i64 (b + ((j : Int) - 10000000)) := by
  obtain ⟨h1, h2⟩ := isC_lt h
  unfold VC
  rw [if_pos h1]
theorem VC_one (h : ∀ i, (V i).oneCell' = true) : ∀ i, (VC V b i).oneCell' = true := by
  intro i
  unfold VC
  split
  · rfl
  · exact h i
theorem cmpI_ok {op : BinOp} {i j : Nat} {z : AC} (h : cmpI op i j = some z) (ρ : Rho) (xt : Nat) : ∃ c, CR V ρ z c ∧ binOp op xt (.int .i64 (b + ((i : Int) - 10000000))) (.int .i64 (b + ((j : Int) - 10000000))) = .pure c := by
  have e1 : (b + ((i : Int) - 10000000) == b + ((j : Int) - 10000000)) = Nat.beq i j := by
    by_cases e : i = j
    · subst e
      simp
    · rw [beq_no e]
      simp only [beq_eq_false_iff_ne, ne_eq]
      omega
  have e2 : ∀ p q : Nat, decide (b + ((p : Int) - 10000000) < b + ((q : Int) - 10000000)) = Nat.blt p q := by
    intro p q
    by_cases e : p < q
    · rw [blt_yes e]
      simp only [decide_eq_true_eq]
      omega
    · rw [blt_no e]
      simp only [decide_eq_false_iff_not]
      omega
  have e3 : ∀ p q : Nat, decide (b + ((p : Int) - 10000000) ≤ b + ((q : Int) - 10000000)) = !(Nat.blt q p) := by
    intro p q
    rw [← e2]
    by_cases e : p ≤ q
    · rw [decide_eq_true (by omega), decide_eq_false (by omega)]
      rfl
    · rw [decide_eq_false (by omega), decide_eq_true (by omega)]
      rfl
  unfold cmpI at h
  split at h
  · injection h with h
    subst h
    exact ⟨_, rfl, by rw [← e1]; rfl⟩
  · injection h with h
    subst h
    exact ⟨_, rfl, by rw [← e1]; rfl⟩
  · injection h with h
    subst h
    exact ⟨_, rfl, by rw [← e2]; rfl⟩
  · injection h with h
    subst h
    exact ⟨_, rfl, by rw [← e3]; rfl⟩
  · injection h with h
    subst h
    exact ⟨_, rfl, by rw [← e2]; rfl⟩
  · injection h with h
    subst h
    exact ⟨_, rfl, by rw [← e3]; rfl⟩
  · cases h
theorem farI_ok {op : BinOp} {lowr : Bool} {z : AC} (h : farI op lowr = some z) (ρ : Rho) (xt : Nat) {x y : Int} (hxy : if lowr = true then x < y else y < x) : ∃ c, CR V ρ z c ∧ binOp op xt (.int .i64 x) (.int .i64 y) = .pure c := by
  have e1 : (x == y) = false := by
    simp only [beq_eq_false_iff_ne, ne_eq]
    split at hxy <;> omega
  have e2 : decide (x < y) = lowr := by
    cases lowr <;> simp only [if_true, Bool.false_eq_true, if_false] at hxy <;> simp <;> omega
  have e3 : decide (x ≤ y) = lowr := by
    cases lowr <;> simp only [if_true, Bool.false_eq_true, if_false] at hxy <;> simp <;> omega
  have e4 : decide (y < x) = !lowr := by
    cases lowr <;> simp only [if_true, Bool.false_eq_true, if_false] at hxy <;> simp <;> omega
  have e5 : decide (y ≤ x) = !lowr := by
    cases lowr <;> simp only [if_true, Bool.false_eq_true, if_false] at hxy <;> simp <;> omega
  unfold farI at h
  split at h <;> first | (cases h; done) | (injection h with h; subst h)
  · exact ⟨_, rfl, by rw [← e1]; rfl⟩
  · exact ⟨.bool (x != y), by show Value.bool _ = _; rw [bne, e1]; rfl, rfl⟩
  · exact ⟨_, rfl, by rw [← e2]; rfl⟩
  · exact ⟨_, rfl, by rw [← e3]; rfl⟩
  · exact ⟨_, rfl, by rw [← e4]; rfl⟩
  · exact ⟨_, rfl, by rw [← e5]; rfl⟩
theorem wrap_fit {n : Int} (h : 0 ≤ n ∧ n ≤ 30000000) : IntKind.i64.wrap n = n := by
  rw [IntKind.wrap_i64]
  omega
theorem tabC_ok (hb : 0 ≤ b ∧ b ≤ 255) : ∀ op x y z, tabC op x y = some z → ∀ ρ u v, CR (VC V b) ρ x u → CR (VC V b) ρ y v → ∃ k n k' n' c, u = .int k n ∧ v = .int k' n' ∧ CR (VC V b) ρ z c ∧ ∀ xt, binOp op xt u v = .pure c := by
  intro op x y z h ρ u v hu hv
  unfold tabC at h
  split at h
  · rename_i i j
    cases hc : (isC i && isC j)
    · simp [hc] at h
    · simp only [hc, cond_true] at h
      simp only [Bool.and_eq_true] at hc
      have hu : u = VC V b i := hu
      have hv : v = VC V b j := hv
      rw [VC_is hb hc.1] at hu
      rw [VC_is hb hc.2] at hv
      obtain ⟨c, k1, _⟩ := cmpI_ok (V := VC V b) (b := b) h ρ 0
      refine ⟨_, _, _, _, c, hu, hv, k1, fun xt => ?_⟩
      obtain ⟨c', k1', k2'⟩ := cmpI_ok (V := VC V b) (b := b) h ρ xt
      rw [hu, hv, k2']
      have : z = z := rfl
      unfold cmpI at h
      split at h <;> first | (cases h; done) | (injection h with h; subst h; rw [show c = _ from k1, show c' = _ from k1'])
  · rename_i i c
    cases hc : isC i
    · simp [hc] at h
    · simp only [hc, cond_true] at h
      have hu : u = VC V b i := hu
      have hv : v = .int .i64 c := hv
      rw [VC_is hb hc] at hu
      obtain ⟨q1, q2⟩ := isC_lt hc
      split at h
      · cases hd : (decide (0 ≤ c) && decide (c ≤ 2000000) && isC (i + c.toNat))
        · simp [hd] at h
        · simp only [hd, cond_true, Option.some.injEq] at h
          subst h
          simp only [Bool.and_eq_true, decide_eq_true_eq] at hd
          refine ⟨_, _, _, _, VC V b (i + c.toNat), hu, hv, rfl, fun xt => ?_⟩
          rw [hu, hv, VC_is hb hd.2]
          show Sem.pure (Value.int .i64 (IntKind.i64.wrap (b + ((i : Int) - 10000000) + c))) = _
          rw [wrap_fit (by omega)]
          have : ((i + c.toNat : Nat) : Int) = i + c := by omega
          rw [this]
          congr 2
          omega
      · cases h1 : decide (c < (i : Int) - 10000000)
        · simp only [h1, cond_false] at h
          cases h2 : decide ((i : Int) - 10000000 + 255 < c)
          · simp [h2] at h
          · simp only [h2, cond_true] at h
            have h2 := of_decide_eq_true h2
            obtain ⟨d, k1, _⟩ := farI_ok (V := VC V b) h ρ 0 (x := b + ((i : Int) - 10000000)) (y := c) (by rw [if_pos rfl]; omega)
            refine ⟨_, _, _, _, d, hu, hv, k1, fun xt => ?_⟩
            obtain ⟨d', k1', k2'⟩ := farI_ok (V := VC V b) h ρ xt (x := b + ((i : Int) - 10000000)) (y := c) (by rw [if_pos rfl]; omega)
            rw [hu, hv, k2']
            unfold farI at h
            split at h <;> first | (cases h; done) | (injection h with h; subst h; rw [show d = _ from k1, show d' = _ from k1'])
        · simp only [h1, cond_true] at h
          have h1 := of_decide_eq_true h1
          obtain ⟨d, k1, _⟩ := farI_ok (V := VC V b) h ρ 0 (x := b + ((i : Int) - 10000000)) (y := c) (by rw [if_neg (by simp)]; omega)
          refine ⟨_, _, _, _, d, hu, hv, k1, fun xt => ?_⟩
          obtain ⟨d', k1', k2'⟩ := farI_ok (V := VC V b) h ρ xt (x := b + ((i : Int) - 10000000)) (y := c) (by rw [if_neg (by simp)]; omega)
          rw [hu, hv, k2']
          unfold farI at h
          split at h <;> first | (cases h; done) | (injection h with h; subst h; rw [show d = _ from k1, show d' = _ from k1'])
  · rename_i c i
    cases hc : isC i
    · simp [hc] at h
    · simp only [hc, cond_true] at h
      have hv : v = VC V b i := hv
      have hu : u = .int .i64 c := hu
      rw [VC_is hb hc] at hv
      obtain ⟨q1, q2⟩ := isC_lt hc
      split at h
      · cases hd : (decide (0 ≤ c) && decide (c ≤ 2000000) && isC (i + c.toNat))
        · simp [hd] at h
        · simp only [hd, cond_true, Option.some.injEq] at h
          subst h
          simp only [Bool.and_eq_true, decide_eq_true_eq] at hd
          refine ⟨_, _, _, _, VC V b (i + c.toNat), hu, hv, rfl, fun xt => ?_⟩
          rw [hu, hv, VC_is hb hd.2]
          show Sem.pure (Value.int .i64 (IntKind.i64.wrap (c + (b + ((i : Int) - 10000000))))) = _
          rw [wrap_fit (by omega)]
          have : ((i + c.toNat : Nat) : Int) = i + c := by omega
          rw [this]
          congr 2
          omega
      · cases h1 : decide (c < (i : Int) - 10000000)
        · simp only [h1, cond_false] at h
          cases h2 : decide ((i : Int) - 10000000 + 255 < c)
          · simp [h2] at h
          · simp only [h2, cond_true] at h
            have h2 := of_decide_eq_true h2
            obtain ⟨d, k1, _⟩ := farI_ok (V := VC V b) h ρ 0 (x := c) (y := b + ((i : Int) - 10000000)) (by rw [if_neg (by simp)]; omega)
            refine ⟨_, _, _, _, d, hu, hv, k1, fun xt => ?_⟩
            obtain ⟨d', k1', k2'⟩ := farI_ok (V := VC V b) h ρ xt (x := c) (y := b + ((i : Int) - 10000000)) (by rw [if_neg (by simp)]; omega)
            rw [hu, hv, k2']
            unfold farI at h
            split at h <;> first | (cases h; done) | (injection h with h; subst h; rw [show d = _ from k1, show d' = _ from k1'])
        · simp only [h1, cond_true] at h
          have h1 := of_decide_eq_true h1
          obtain ⟨d, k1, _⟩ := farI_ok (V := VC V b) h ρ 0 (x := c) (y := b + ((i : Int) - 10000000)) (by rw [if_pos rfl]; omega)
          refine ⟨_, _, _, _, d, hu, hv, k1, fun xt => ?_⟩
          obtain ⟨d', k1', k2'⟩ := farI_ok (V := VC V b) h ρ xt (x := c) (y := b + ((i : Int) - 10000000)) (by rw [if_pos rfl]; omega)
          rw [hu, hv, k2']
          unfold farI at h
          split at h <;> first | (cases h; done) | (injection h with h; subst h; rw [show d = _ from k1, show d' = _ from k1'])
  · cases h
end
/-! Lower on names. -/
noncomputable def nmT (x : Int) : Tm := .mk 2 x []
theorem nmT_tr (w : World) {x : Int} (h : fits x) : Tr w (nmT x) none 0 := Tr.leaf w 2 x none 0 (by unfold fits; omega) h
theorem lowT_flip {x y : Int} (h : x ≠ y) : Go.Proofs.YtbfppnppijcnlaaGreat.lowT (nmT y) (nmT x) = !(Go.Proofs.YtbfppnppijcnlaaGreat.lowT (nmT x) (nmT y)) := by
  cases h1 : Go.Proofs.YtbfppnppijcnlaaGreat.lowT (nmT x) (nmT y)
  · cases h2 : Go.Proofs.YtbfppnppijcnlaaGreat.lowT (nmT y) (nmT x)
    · exfalso
      unfold Go.Proofs.YtbfppnppijcnlaaGreat.lowT at h1 h2
      by_cases e : rankT (nmT x) = rankT (nmT y)
      · rw [if_neg (by simp [e])] at h1 h2
        have := equT_iff.1 (lessT_total h1 h2)
        unfold nmT at this
        injection this with _ h3 _
        exact h h3
      · rw [if_pos e] at h1
        rw [if_pos (Ne.symm e)] at h2
        simp at h1 h2
        omega
    · rfl
  · rw [lowT_asymm h1]
    rfl
theorem acE_eq : ∀ {x y : AC}, acE x y = true → x = y := by
  intro x y h
  unfold acE at h
  split at h
  · rw [Nat.eq_of_beq_eq_true h]
  · rw [of_decide_eq_true h]
  · cases h
theorem findLo_mem : ∀ {l : List (AC × AC × Bool)} {x y : AC} {r : Bool}, findLo l x y = some r → (x, y, r) ∈ l
  | [], _, _, _, h => by cases h
  | e :: l, x, y, r, h => by
    simp only [findLo] at h
    cases hb : (acE e.1 x && acE e.2.1 y)
    · simp only [hb, cond_false] at h
      exact List.mem_cons_of_mem _ (findLo_mem h)
    · simp only [hb, cond_true, Option.some.injEq] at h
      simp only [Bool.and_eq_true] at hb
      rw [← acE_eq hb.1, ← acE_eq hb.2, ← h]
      simp
/-- What the table of Lower says is so. -/
noncomputable def TlOK (V : Nat → Value) (tl : List (AC × AC × Bool)) : Prop := ∀ e ∈ tl, ∃ x y : Int, fits x ∧ fits y ∧ Go.Proofs.YtbfppnppijcnlaaGreat.lowT (nmT x) (nmT y) = e.2.2 ∧ (∀ ρ u, CR V ρ e.1 u → u = .int .i64 x) ∧ ∀ ρ u, CR V ρ e.2.1 u → u = .int .i64 y
theorem lowE_ok {V : Nat → Value} {tl : List (AC × AC × Bool)} (htl : TlOK V tl) : CallOK Tryz.prog V (lowE tl) := by
  intro f args s v s' h ρ w vals hargs hr hf
  unfold lowE at h
  cases hb : Nat.beq f 119
  · simp [hb] at h
  · simp only [hb, cond_true] at h
    have hb := Nat.eq_of_beq_eq_true hb
    subst hb
    split at h
    · rename_i x y
      split at h
      · rename_i r hfi
        simp only [Option.some.injEq, Prod.mk.injEq] at h
        obtain ⟨rfl, rfl⟩ := h
        obtain ⟨p, q, f1, f2, hl, h1, h2⟩ := htl _ (findLo_mem hfi)
        match hlv : vals.toList, hargs with
        | [a, b], hargs =>
          obtain ⟨⟨cs, rfl, hcs⟩, ⟨ds, rfl, hds⟩, _⟩ := hargs
          have key : ∀ {z : AC} {n : Int} {es : Array Value}, (∀ ρ u, CR V ρ z u → u = .int .i64 n) → F2 (CR V ρ) [.int .i64 2, z, .slice none 0 (.lit 0)] es.toList → es = #[.int .i64 2, .int .i64 n, .slice none 0 0] := by
            intro z n es hz he
            apply Array.ext'
            match hes : es.toList, he with
            | [u1, u2, u3], he =>
              obtain ⟨g1, g2, ⟨m, g3, g4, g5⟩, _⟩ := he
              have g3 : m = 0 := g3
              rw [show u1 = .int .i64 2 from g1, hz ρ u2 g2, g5, g3]
          have e1 := key h1 hcs
          have e2 := key h2 hds
          have hvals : vals = #[.agg #[.int .i64 (nmT p).op, .int .i64 (nmT p).val, .slice none (nmT p).args.length 0], .agg #[.int .i64 (nmT q).op, .int .i64 (nmT q).val, .slice none (nmT q).args.length 0]] := by
            apply Array.ext'
            rw [hlv, e1, e2]
            rfl
          subst hvals
          refine (lower_any (nmT p) (nmT q) w none none 0 0 (nmT_tr w f1) (nmT_tr w f2)).mono ?_
          rintro e w' ⟨rfl, hbw⟩
          exact ⟨_, ρ, rfl, goes_keep hr hbw, by rw [hl]; rfl⟩
      · cases h
    · cases h
noncomputable def extC (tl : List (AC × AC × Bool)) (f : Nat) (args : List AV) (s : St) : Option (AV × St) :=
  match envZ.fn f with
  | none => none
  | some _ => orE (lowE tl) (tmE isC) f args s
theorem lowE_st {tl : List (AC × AC × Bool)} {f : Nat} {args : List AV} {s s' : St} {v : AV} (h : lowE tl f args s = some (v, s')) : s' = s := by
  unfold lowE at h
  cases hb : Nat.beq f 119
  · simp [hb] at h
  · simp only [hb, cond_true] at h
    split at h
    · split at h
      · simp only [Option.some.injEq, Prod.mk.injEq] at h
        exact h.2.symm
      · cases h
    · cases h
theorem co_okK {V : Nat → Value} {b : Int} {DK : Nat → Prop} {wK : World} {tl : List (AC × AC × Bool)} (hb : 0 ≤ b ∧ b ≤ 255) (v1 : V 1 = .int .u8 b) (hone : ∀ i, (V i).oneCell' = true) (htl : TlOK (VC V b) tl) : EnvOK Tryz.prog (VC V b) (env tabC cvtC (extC tl)) ∧ ExtOKK DK wK Tryz.prog (VC V b) (env tabC cvtC (extC tl)) := by
  have e1 : EnvOK Tryz.prog (VC V b) (env tabC cvtC (extC tl)) := by
    refine env_ok (tabC_ok hb) (fun k i z h ρ => ?_) (VC_one hone)
    unfold cvtC at h
    split at h
    · rename_i e
      injection e with e
      injection h with h
      subst e
      subst h
      refine ⟨.u8, b, ?_, ?_⟩
      · show VC V b 1 = _
        unfold VC
        rw [if_neg (by omega), v1]
      · show _ = VC V b 10000000
        unfold VC
        rw [if_pos (by omega), IntKind.wrap_i64]
        congr 1
        omega
    · cases h
  have e2 : ExtOK Tryz.prog (VC V b) (env tabC cvtC (extC tl)) := by
    refine ⟨?_, ?_, ?_⟩
    · intro f args s v s' h
      have h : extC tl f args s = some (v, s') := h
      unfold extC at h
      split at h
      · cases h
      · refine orE_ok (lowE_ok htl) (tmE_ok (fun j hj => ?_)) f args s v s' h
        refine ⟨_, VC_is hb hj, ?_⟩
        obtain ⟨q1, q2⟩ := isC_lt hj
        unfold fits
        omega
    · intro f args s v s' h
      have h : extC tl f args s = some (v, s') := h
      unfold extC at h
      split at h
      · cases h
      · unfold orE at h
        split at h
        · rename_i r hr
          injection h with h
          subst h
          rw [lowE_st hr]
          exact ⟨Nat.le_refl _, Nat.le_refl _⟩
        · rw [tmE_st h]
          exact ⟨Nat.le_refl _, Nat.le_refl _⟩
    · intro f args s r h
      have h : extC tl f args s = some r := h
      unfold extC at h
      split at h
      · cases h
      · rename_i g hg
        exact ⟨g, hg⟩
  exact ⟨e1, ExtOK.kk (noDeep e1 e2.fn) e2⟩
section
variable {V0 : Nat → Value} {q : Ls} {ga : Nat} {row : Array Value} {hl : Bool}
theorem law_two2 (hRa : ∀ c, c < 6 → twOKa c = true) (hRb : ∀ n, n < 24 → twOKb n = true) (hL : LsOK hl q ga row) (hone : ∀ i, (V0 i).oneCell' = true) {i0 i1 d id : Nat} {ops : Array Oper} {u t : Sl} {s : St} (hck : lwStart hl i0 i1 d ops u t s = true) {fn : Func} {w0 : World} {l : List Code}
    (hall : ∀ n, n < 24 → ∀ V DK wK, (∀ j, j < 30 → V j = V0 j) → NetOK V DK wK (tOf n) (nOf n) → ∃ V' T E u' r' ra rb rr, T.sy = [] ∧ (∀ j, T.p j = true → V' j = V (T.src j)) ∧ (∀ j x, T.lit j = some x → V' j = .int .i64 x) ∧ retOK T (twU (kdOf n)) (twS (kdOf n)) (pad 3 [.one ra, .one rb, .one rr]) r' = true ∧ retOK T u (twS (kdOf n)) u' r' = true ∧ EnvOK Tryz.prog V' E ∧ ExtOKK DK wK Tryz.prog V' E ∧ endTrue E fn.results.toList (restA E ops l (lset u' d (.tup [ra, rb, rr])) r') = true)
    {a : Act} {w : World} (hh : HereC V0 q ga row w0.heap.size w0 t s a w) : wpL Tryz.prog (LawQ fn w0) (.region id ops false :: l) a w := by
  obtain ⟨b, p, _, ρ, ht, hr, h1, h2, h3, h4, h5⟩ := hh
  unfold lwStart at hck
  simp only [Bool.and_eq_true] at hck
  obtain ⟨ft, fh, hck⟩ := hck
  split at hck
  · rename_i t1 s1 r1
    split at hck
    · rename_i o1 ho1
      simp only [Bool.and_eq_true] at hck
      obtain ⟨ck, hret, hi0⟩ := hck
      have hi0 : i0 < s.next := Nat.le_of_ble_eq_true hi0
      have hsz : 2 ≤ ops.size := by
        have := (Array.getElem?_eq_some_iff.1 ho1).1
        omega
      show (Code.region id ops false).wp Tryz.prog (Exit.then (wpL Tryz.prog (LawQ fn w0) l) (LawQ fn w0)) a w
      refine wp_region ?_
      rw [List.range_eq_range', show ops.size = 1 + ((ops.size - 2) + 1) by omega]
      have hbp : ∀ i, (i < 902 ∨ 903 ≤ i) → vL V0 q ga row b p i = vL V0 q ga row 0 0 i := by
        intro i hi
        unfold vL
        split
        · rfl
        · split
          · rfl
          · rw [if_neg (by omega), if_neg (by omega)]
      have ht := tr_raV hbp ft ht
      have hr := rep_raV hbp fh hr
      have hV1 := vL_one (q := q) (ga := ga) (row := row) hone 0 0
      obtain ⟨e1, e2⟩ := e0n_ok hV1
      have hc : Clean ρ s := ⟨h1, h2⟩
      have hk : KP (fun _ => False) w ρ w := ⟨fun b h => h.elim, fun b h => h.elim, fun b h => h.elim⟩
      have e2K : ExtOKK (fun _ => False) w Tryz.prog (vL V0 q ga row 0 0) E0n := ExtOK.kk (noDeep e1 (fun f args s r h => e2.fn f args s r h)) e2
      have tk := ops_takeK e1 (fnA_okK e1 e2K 30) (fnA_fnK e2K.fn 30) (fnA_up (E := E0n) e2.up 30) (ops := ops) (ops.toList.take 1) 0 ((ops.size - 2) + 1) (fun i o ho => by have := sub_at (ops := ops) (k := 0) (n := 1) i o (by simpa using ho); exact this) r1 ht hr (hc.free _) hk (Q := Exit.then (wpL Tryz.prog (LawQ fn w0) l) (LawQ fn w0))
      have hl1 : (ops.toList.take 1).length = 1 := by
        rw [List.length_take, Array.length_toList]
        omega
      rw [hl1] at tk
      refine tk (fun ρ1 a1 w1 g1 ht1 hk1 => ?_)
      have hs0 : HereK (fun _ => False) w (vL V0 q ga row 0 0) w0.heap.size w0 t1 s1 a1 w1 := hereK_goes hr h1 h2 h3 h4 h5 hk g1 ht1
      obtain ⟨_, _, _, _, _, _, b1, b2, _⟩ := hs0
      rw [show (0 + 1 : Nat) = 1 from rfl, List.range'_succ, wpOps_cons]
      obtain ⟨l3, q1, q2, q3, q4⟩ := ckTw_ok ck
      refine wp_callee2 e1 two_fn ho1 q1 ht1 (fun vals hv => ?_)
      rw [q3] at hv
      obtain ⟨d0, d1⟩ := codesIn_ok q4
      obtain ⟨g, p', hbg, hC⟩ := rep_some hL g1.1 d0 d1
      obtain ⟨hrow, hne⟩ := row_ne hL g1.1 q4 hC
      have hvals : vals = #[.pointer (some ⟨g, 0, none⟩)] := by
        apply Array.ext'
        match hl : vals.toList, hv with
        | [x], hv =>
          obtain ⟨b', f0, f1⟩ := hv.1
          rw [hbg] at f0
          injection f0 with f0
          subst f0
          rw [f1]
      subst hvals
      refine (two_any hRa hRb hL hC hrow hne hone).mono ?_
      rintro e w2 ⟨n, hn24, V, DK, wK, ρ2, x, y, z, rfl, hVA, hN, ht2, hr2, hc2, hb2, hk2, hgr⟩
      obtain ⟨V', T, E, u', r', ra, rb, rr, hsy, hpV, hlV, hret2, hret3, hE, hx, hend⟩ := hall n hn24 V DK wK hVA hN
      have hret1 : retOK tLow t1 s1 u ⟨[], 0, 0, []⟩ = true := hret
      obtain ⟨k1, _, _, _, _⟩ := tell_all (V := vL V0 q ga row 0 0) (V' := V) (T := tLow) hV1 (fun j hj => by
        have hj : j < 30 := Nat.le_of_ble_eq_true hj
        rw [hVA j hj]
        exact (vL_low (by show j < 900; omega)).symm) (fun j b hb => by cases hb) (fun j x v e => by cases e) hret1 ht1 g1.1
      have hle : Le (ρ1.tell tLow) ρ2 := ⟨fun i b e => (by cases e), fun i b e => (by cases e)⟩
      have hg0 : w0.heap.size ≤ g := h3 i0 g (by rw [← g1.2.1.blk i0 (.inl hi0)]; exact hbg)
      obtain ⟨o1', o2', o3', o4', o5'⟩ := hgr
      refine ⟨_, rfl, ?_⟩
      have hS : ∀ j x v, lkS T.sy j = some x → isTI x = true → CR V ρ2 x v → v = V' j := fun j x v e => by rw [hsy] at e; cases e
      obtain ⟨m1, m2, m3, m4, m5⟩ := tell_all hN.one hpV hlV hS hret2 ht2 hr2
      obtain ⟨p1, _, _, _, _⟩ := tell_all hN.one hpV hlV hS hret3 (k1.mono _ hle) hr2
      refine endTrue_okK hE hx (base := w0.heap.size) (w1 := w2) (fun w' hb => ?_) hend ⟨ρ2.tell T, ?_, m2, m3, m4, fun i b e => ?_, Below.refl _ _, Nat.le_trans b2 o4', ⟨hk2.lt, hk2.eq, fun b hb i e => ?_⟩⟩
      · have hb12 : RowKit.Below w0.heap.size w1 w2 := ⟨o1', o2', o3', o4', fun i hi => o5' i (by omega) (by omega)⟩
        exact (b1.trans hb12).trans hb
      · rw [q2]
        exact tr_put p1 (d := some d) (v := .tup [ra, rb, rr]) ⟨#[x, y, z], rfl, m1.v 0, m1.v 1, m1.v 2, trivial⟩
      · obtain ⟨j, _, e'⟩ := m5 i b e
        exact Nat.le_trans b2 (hb2 j b e')
      · obtain ⟨j, _, e'⟩ := m5 i b e
        exact hk2.no b hb j e'
    · cases hck
  · cases hck
end
end Ab
end Go.Proofs.YtbfppnppijcnlaaGreat
