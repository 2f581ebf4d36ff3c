/-
  What the interpreter's data mean: rows of cells, blocks, worlds; plain laws.
  Conditions: none.
-/
import Derived.Test.YtbfppnppijcnlaaGreatAbs
namespace Go.Proofs.YtbfppnppijcnlaaGreat
namespace Ab
set_option linter.unusedVariables false
set_option linter.unusedSimpArgs false
/-- Two rows, cell by cell. -/
noncomputable def F2 {α β : Type} (R : α → β → Prop) : List α → List β → Prop
  | [], [] => True
  | x :: xs, y :: ys => R x y ∧ F2 R xs ys
  | _, _ => False
theorem F2.length {α β : Type} {R : α → β → Prop} : ∀ {l : List α} {m : List β}, F2 R l m → l.length = m.length
  | [], [], _ => rfl
  | _ :: _, _ :: _, h => congrArg (· + 1) h.2.length
  | [], _ :: _, h => h.elim
  | _ :: _, [], h => h.elim
theorem F2.mono {α β : Type} {R S : α → β → Prop} (hRS : ∀ x y, R x y → S x y) : ∀ {l : List α} {m : List β}, F2 R l m → F2 S l m
  | [], [], _ => trivial
  | _ :: _, _ :: _, h => ⟨hRS _ _ h.1, h.2.mono hRS⟩
  | [], _ :: _, h => h.elim
  | _ :: _, [], h => h.elim
theorem F2.append {α β : Type} {R : α → β → Prop} : ∀ {l : List α} {m : List β} {l' : List α} {m' : List β}, F2 R l m → F2 R l' m' → F2 R (l ++ l') (m ++ m')
  | [], [], _, _, _, h => h
  | _ :: _, _ :: _, _, _, h, h' => ⟨h.1, h.2.append h'⟩
  | [], _ :: _, _, _, h, _ => h.elim
  | _ :: _, [], _, _, h, _ => h.elim
theorem F2.mem {α β : Type} {R : α → β → Prop} : ∀ {l : List α} {m : List β}, F2 R l m → ∀ y ∈ m, ∃ x ∈ l, R x y
  | [], [], _, y, hy => by cases hy
  | a :: _, b :: _, h, y, hy => by
    cases hy with
    | head => exact ⟨a, by simp, h.1⟩
    | tail _ hy =>
      obtain ⟨x, hx, hr⟩ := h.2.mem y hy
      exact ⟨x, by simp [hx], hr⟩
  | [], _ :: _, h, _, _ => h.elim
  | _ :: _, [], h, _, _ => h.elim
theorem F2.get {α β : Type} {R : α → β → Prop} : ∀ {l : List α} {m : List β}, F2 R l m → ∀ (i : Nat) (x : α), l[i]? = some x → ∃ y, m[i]? = some y ∧ R x y
  | [], [], _, i, x, hx => by simp at hx
  | a :: _, b :: _, h, 0, x, hx => by
    simp only [List.getElem?_cons_zero, Option.some.injEq] at hx
    exact ⟨b, rfl, hx ▸ h.1⟩
  | _ :: _, _ :: _, h, i + 1, x, hx => by
    simp only [List.getElem?_cons_succ] at hx ⊢
    exact h.2.get i x hx
  | [], _ :: _, h, _, _, _ => h.elim
  | _ :: _, [], h, _, _, _ => h.elim
theorem F2.drop {α β : Type} {R : α → β → Prop} : ∀ {l : List α} {m : List β} (n : Nat), F2 R l m → F2 R (ldrop l n) (m.drop n)
  | l, m, 0, h => by simpa [ldrop_z, ldrop_n, ldrop_c] using h
  | [], [], n + 1, _ => by simp [ldrop_z, ldrop_n, ldrop_c, F2]
  | _ :: _, _ :: _, n + 1, h => by simpa [ldrop_z, ldrop_n, ldrop_c] using F2.drop n h.2
  | [], _ :: _, _ + 1, h => h.elim
  | _ :: _, [], _ + 1, h => h.elim
theorem F2.take {α β : Type} {R : α → β → Prop} : ∀ {l : List α} {m : List β} (n : Nat) {k : List α}, F2 R l m → ltake l n = some k → F2 R k (m.take n) ∧ k.length = n ∧ n ≤ m.length
  | l, m, 0, k, h, hk => by
    simp only [ltake_z, ltake_n, ltake_c, Option.some.injEq] at hk
    subst hk
    simp [F2]
  | [], [], n + 1, k, _, hk => by simp [ltake_z, ltake_n, ltake_c] at hk
  | x :: l, y :: m, n + 1, k, h, hk => by
    simp only [ltake_z, ltake_n, ltake_c] at hk
    cases h1 : ltake l n with
    | none => simp [h1] at hk
    | some k1 =>
      simp only [h1, Option.some.injEq] at hk
      subst hk
      obtain ⟨g1, g2, g3⟩ := F2.take n h.2 h1
      exact ⟨by simpa using ⟨h.1, g1⟩, by simp [g2], by simp; omega⟩
  | [], _ :: _, _ + 1, _, h, _ => h.elim
  | _ :: _, [], _ + 1, _, h, _ => h.elim
theorem F2.sub {α β : Type} {R : α → β → Prop} {l : List α} {m : List β} {off n : Nat} {k : List α} (h : F2 R l m) (hk : sub l off n = some k) :
    F2 R k ((m.drop off).take n) ∧ k.length = n ∧ (n = 0 ∨ off + n ≤ m.length) := by
  obtain ⟨h1, h2, h3⟩ := F2.take n (F2.drop off h) hk
  refine ⟨h1, h2, ?_⟩
  rw [List.length_drop] at h3
  omega
theorem F2.over {α β : Type} {R : α → β → Prop} : ∀ {l : List α} {m : List β} (off : Nat) {xs : List α} {ys : List β} {k : List α}, F2 R l m → F2 R xs ys → over l off xs = some k →
    F2 R k (m.take off ++ ys ++ m.drop (off + ys.length)) ∧ off + ys.length ≤ m.length
  | l, m, 0, [], [], k, h, _, hk => by
    have e : l = k := by cases l <;> simpa [over_z, over_c, over_n, over_s, over_e] using hk
    subst e
    simpa using h
  | x :: l, y :: m, 0, a :: xs, b :: ys, k, h, h', hk => by
    simp only [over_z, over_c, over_n, over_s, over_e] at hk
    cases h1 : Ab.over l 0 xs with
    | none => simp [h1] at hk
    | some k1 =>
      simp only [h1, Option.some.injEq] at hk
      subst hk
      obtain ⟨g1, g2⟩ := F2.over 0 h.2 h'.2 h1
      refine ⟨⟨h'.1, ?_⟩, by simp; omega⟩
      simpa using g1
  | [], [], 0, a :: xs, b :: ys, k, h, h', hk => by simp [over_z, over_c, over_n, over_s, over_e] at hk
  | x :: l, y :: m, n + 1, xs, ys, k, h, h', hk => by
    simp only [over_z, over_c, over_n, over_s, over_e] at hk
    cases h1 : Ab.over l n xs with
    | none => simp [h1] at hk
    | some k1 =>
      simp only [h1, Option.some.injEq] at hk
      subst hk
      obtain ⟨g1, g2⟩ := F2.over n h.2 h' h1
      refine ⟨?_, by simp; omega⟩
      rw [show n + 1 + ys.length = (n + ys.length) + 1 by omega]
      exact ⟨h.1, g1⟩
  | [], [], n + 1, xs, ys, k, h, h', hk => by cases xs <;> simp [over_z, over_c, over_n, over_s, over_e] at hk
  | [], _ :: _, _, _, _, _, h, _, _ => h.elim
  | _ :: _, [], _, _, _, _, h, _, _ => h.elim
  | _, _, 0, [], _ :: _, _, _, h, _ => h.elim
  | _, _, 0, _ :: _, [], _, _, h, _ => h.elim
theorem beq_no {a b : Nat} (h : a ≠ b) : Nat.beq a b = false := by
  cases hb : Nat.beq a b
  · rfl
  · exact absurd (Nat.eq_of_beq_eq_true hb) h
theorem look_cons (x : Nat × Blk) (r : List (Nat × Blk)) (i : Nat) : look (x :: r) i = if x.1 = i then some x.2 else look r i := by
  by_cases h : x.1 = i
  · subst h
    simp [look_n, look_c]
  · simp [look_n, look_c, h, beq_no h]
theorem look_upd (H : List (Nat × Blk)) (i : Nat) (B : Blk) (j : Nat) : look (upd H i B) j = if j = i then (look H i).map (fun _ => B) else look H j := by
  induction H with
  | nil => simp [upd_n, upd_c, look_n, look_c]
  | cons x r ih =>
    rw [upd_c]
    by_cases h : x.1 = i
    · subst h
      simp only [Nat.beq_refl, cond_true, look_cons]
      by_cases hj : j = x.1
      · subst hj
        simp
      · simp [hj, Ne.symm hj]
    · have hb : Nat.beq x.1 i = false := by
        cases hb : Nat.beq x.1 i
        · rfl
        · exact absurd (Nat.eq_of_beq_eq_true hb) h
      simp only [hb, cond_false, look_cons, ih]
      by_cases hx : x.1 = j
      · have : ¬ j = i := by omega
        simp [hx, this]
      · by_cases hj : j = i
        · subst hj
          simp [hx]
        · simp [hx, hj]
theorem look_del (H : List (Nat × Blk)) (i j : Nat) : look (del H i) j = if j = i then none else look H j := by
  induction H with
  | nil => simp [del_n, del_c, look_n, look_c]
  | cons x r ih =>
    rw [del_c]
    by_cases h : x.1 = i
    · subst h
      simp only [Nat.beq_refl, cond_true, look_cons, ih]
      by_cases hj : j = x.1
      · simp [hj]
      · simp [hj, Ne.symm hj]
    · have hb : Nat.beq x.1 i = false := by
        cases hb : Nat.beq x.1 i
        · rfl
        · exact absurd (Nat.eq_of_beq_eq_true hb) h
      simp only [hb, cond_false, look_cons, ih]
      by_cases hx : x.1 = j
      · have : ¬ j = i := by omega
        simp [hx, this]
      · simp [hx]
theorem odd_eq {n : Nat} (h : n % 2 = 1) : Nat.beq (n % 2) 1 = true := by rw [h]; rfl
theorem odd_no {n : Nat} (h : ¬ n % 2 = 1) : Nat.beq (n % 2) 1 = false := beq_no h
theorem tget_leaf (n : Nat) : tget .leaf n = .undef := rfl
theorem tget_node (v : AV) (l r : Sq) (n : Nat) : tget (.node v l r) n = if n = 0 then v else if n % 2 = 1 then tget l (n / 2) else tget r (n / 2 - 1) := by
  by_cases h0 : n = 0
  · subst h0
    rfl
  · rw [if_neg h0]
    by_cases h1 : n % 2 = 1
    · rw [if_pos h1]
      simp only [tget_n, beq_no h0, odd_eq h1, cond_false, cond_true]
    · rw [if_neg h1]
      simp only [tget_n, beq_no h0, odd_no h1, cond_false]
theorem tget_tset (v : AV) : ∀ (k : Nat) (t : Sq) (n m : Nat), n < k → tget (tset k t n v) m = if m = n then v else tget t m
  | 0, t, n, m, h => absurd h (by omega)
  | k + 1, t, n, m, h => by
    have key : ∀ (u : AV) (l r : Sq), tget (bif Nat.beq n 0 then .node v l r else bif Nat.beq (n % 2) 1 then .node u (tset k l (n / 2) v) r else .node u l (tset k r (n / 2 - 1) v)) m = if m = n then v else tget (.node u l r) m := by
      intro u l r
      by_cases h0 : n = 0
      · subst h0
        simp only [Nat.beq_refl, cond_true, tget_node]
        by_cases hm : m = 0
        · rw [if_pos hm, if_pos hm]
        · rw [if_neg hm, if_neg hm, if_neg hm]
      · by_cases h1 : n % 2 = 1
        · simp only [beq_no h0, odd_eq h1, cond_false, cond_true, tget_node]
          rw [tget_tset v k l (n / 2) (m / 2) (by omega)]
          by_cases hm : m = n
          · subst hm
            rw [if_neg h0, if_pos h1, if_pos rfl, if_pos rfl]
          · rw [if_neg hm]
            by_cases hm0 : m = 0
            · rw [if_pos hm0, if_pos hm0]
            · rw [if_neg hm0, if_neg hm0]
              by_cases hm1 : m % 2 = 1
              · rw [if_pos hm1, if_pos hm1, if_neg (by omega)]
              · rw [if_neg hm1, if_neg hm1]
        · simp only [beq_no h0, odd_no h1, cond_false, tget_node]
          rw [tget_tset v k r (n / 2 - 1) (m / 2 - 1) (by omega)]
          by_cases hm : m = n
          · subst hm
            rw [if_neg h0, if_neg h1, if_pos rfl, if_pos rfl]
          · rw [if_neg hm]
            by_cases hm0 : m = 0
            · rw [if_pos hm0, if_pos hm0]
            · rw [if_neg hm0, if_neg hm0]
              by_cases hm1 : m % 2 = 1
              · rw [if_pos hm1, if_pos hm1]
              · rw [if_neg hm1, if_neg hm1, if_neg (by omega)]
    cases t with
    | leaf =>
      have e : tget (.node .undef .leaf .leaf) m = tget .leaf m := by
        rw [tget_node]
        simp [tget_leaf]
      rw [tset_l, ← e]
      exact key .undef .leaf .leaf
    | node u l r =>
      rw [tset_n]
      exact key u l r
theorem blt_yes {a b : Nat} (h : a < b) : Nat.blt a b = true := Nat.ble_eq_true_of_le (show a + 1 ≤ b from h)
theorem blt_no {a b : Nat} (h : ¬ a < b) : Nat.blt a b = false := by
  cases hb : Nat.blt a b
  · rfl
  · exact absurd (Nat.le_of_ble_eq_true (show Nat.ble (a + 1) b = true from hb)) (by omega)
theorem lget_far {t : Sl} {e : Nat} (h : ¬ e < t.length) : lget t e = .undef := by
  rw [lget_eq, blt_no h]
  rfl
theorem lset_length (t : Sl) (d : Nat) (v : AV) : (lset t d v).length = t.length := by
  rw [lset_eq]
  cases Nat.blt d t.length <;> rfl
theorem lget_lset (t : Sl) (d : Nat) (v : AV) (e : Nat) : lget (lset t d v) e = if e = d ∧ d < t.length then v else lget t e := by
  rw [lset_eq]
  by_cases hd : d < t.length
  · rw [blt_yes hd]
    simp only [cond_true]
    rw [lget_eq, lget_eq]
    simp only
    by_cases he : e < t.length
    · rw [blt_yes he]
      simp only [cond_true]
      rw [tget_tset v (d + 1) t.t d e (by omega)]
      by_cases hx : e = d
      · rw [if_pos hx, if_pos ⟨hx, hd⟩]
      · rw [if_neg hx, if_neg (show ¬ (e = d ∧ d < t.length) from fun h => hx h.1)]
    · rw [blt_no he, if_neg (show ¬ (e = d ∧ d < t.length) from fun h => he (h.1 ▸ hd))]
      simp only [cond_false]
  · rw [blt_no hd]
    simp only [cond_false]
    rw [if_neg (show ¬ (e = d ∧ d < t.length) from fun h => hd h.2)]
theorem put_length (t : Sl) (d : Option Nat) (v : AV) : (put t d v).length = t.length := by
  cases d <;> simp [put, lset_length]
/-- Which blocks and capacities the numbers are. -/
structure Rho where
  blk : Nat → Option Nat
  cap : Nat → Option Nat
noncomputable def CapR (ρ : Rho) : Cap → Nat → Prop
  | .lit n, m => m = n
  | .sym i, m => ρ.cap i = some m
/-- Two numbers in one. -/
noncomputable def unp : Nat → Nat → Nat × Nat
  | 0, _ => (0, 0)
  | k + 1, m => if m % 2 = 1 then (0, m / 2) else ((unp k (m / 2)).1 + 1, (unp k (m / 2)).2)
theorem unp_ok : ∀ (a b k : Nat), a < k → unp k (2 ^ a * (2 * b + 1)) = (a, b)
  | 0, b, k + 1, _ => by
    rw [unp, if_pos (by omega)]
    congr 1
    omega
  | a + 1, b, k + 1, h => by
    have e : 2 ^ (a + 1) * (2 * b + 1) = 2 * (2 ^ a * (2 * b + 1)) := by rw [Nat.pow_succ]; ac_rfl
    have e2 : 2 * (2 ^ a * (2 * b + 1)) / 2 = 2 ^ a * (2 * b + 1) := by omega
    rw [e, unp, if_neg (by omega), e2, unp_ok a b k (by omega)]
/-- A slice's value, in one number. -/
noncomputable def sliceOf (m : Nat) : Value :=
  let p := unp m m
  let q := unp p.1 p.1
  let r := unp p.2 p.2
  .slice (some ⟨q.1, q.2, none⟩) r.1 r.2
theorem pr_lt (a b : Nat) : a < 2 ^ a * (2 * b + 1) := Nat.lt_of_lt_of_le Nat.lt_two_pow_self (Nat.le_mul_of_pos_right _ (by omega))
theorem sliceOf_ex (b o n c : Nat) : ∃ m, sliceOf m = .slice (some ⟨b, o, none⟩) n c := by
  refine ⟨2 ^ (2 ^ b * (2 * o + 1)) * (2 * (2 ^ n * (2 * c + 1)) + 1), ?_⟩
  unfold sliceOf
  simp only [unp_ok _ _ _ (pr_lt _ _)]
/-- The numbers of a box, in one number. -/
noncomputable def dgB (m i : Nat) : Int := (((m / 36893488147419103232 ^ i) % 36893488147419103232 : Nat) : Int) - 9223372036854775808
/-- A box's number. -/
noncomputable def boxCell (m i : Nat) : Value := .int (tagK i) (dgB m i)
noncomputable def AdrP (f h l : Int) : Prop := (f = 4 ∧ h = 0 ∧ 0 ≤ l ∧ l < 4294967296) ∨ (f = 6 ∧ 0 ≤ h ∧ h < 18446744073709551616 ∧ 0 ≤ l ∧ l < 18446744073709551616)
/-- A box that is right. -/
noncomputable def BoxP (d : Nat → Int) : Prop :=
  AdrP (d 0) (d 1) (d 2) ∧ AdrP (d 3) (d 4) (d 5) ∧ AdrP (d 6) (d 7) (d 8) ∧ AdrP (d 9) (d 10) (d 11) ∧ d 3 = d 0 ∧ d 6 = d 0 ∧ d 9 = d 0 ∧
  (d 1 < d 4 ∨ (d 1 = d 4 ∧ d 2 ≤ d 5)) ∧ (d 7 < d 10 ∨ (d 7 = d 10 ∧ d 8 ≤ d 11)) ∧ 0 ≤ d 12 ∧ d 13 ≤ 255 ∧ d 12 ≤ d 13 ∧
  -1 ≤ d 14 ∧ d 15 ≤ 65535 ∧ d 14 ≤ d 15 ∧ -1 ≤ d 16 ∧ d 17 ≤ 65535 ∧ d 16 ≤ d 17
section
variable (V : Nat → Value)
noncomputable def CR (ρ : Rho) : AC → Value → Prop
  | .int k n, v => v = .int k n
  | .bool b, v => v = .bool b
  | .sym i, v => v = V i
  | .ptr none, v => v = .pointer none
  | .ptr (some (i, o)), v => ∃ b, ρ.blk i = some b ∧ v = .pointer (some ⟨b, o, none⟩)
  | .slice none n c, v => ∃ m, CapR ρ c m ∧ n ≤ m ∧ v = .slice none n m
  | .slice (some (i, o)) n c, v => ∃ b m, ρ.blk i = some b ∧ CapR ρ c m ∧ n ≤ m ∧ v = .slice (some ⟨b, o, none⟩) n m
  | .void, v => ∃ a m, v = .slice (some a) 0 m
  | .nilFunc, v => v = .nilFunc
  | .nilIface, v => v = .nilIface
  | .fn f, v => v = .func (.func f) #[] #[]
  | .any, v => v.oneCell' = true
  | .num k, v => ∃ n, v = .int k n
  | .bo, v => ∃ b, v = .bool b
  | .str s, v => v = .string s
  | .rng m, v => ∃ n : Nat, n < m ∧ v = .int .i64 n
  | .ivl k lo hi, v => ∃ n : Int, lo ≤ n ∧ n ≤ hi ∧ v = .int k n
  | .tag c i, v => ∃ m, ρ.cap c = some m ∧ BoxP (dgB m) ∧ v = boxCell m i
  | .nat c m, v => ∃ x : Nat, ρ.cap c = some x ∧ x < m ∧ v = .int .i64 x
  | .cv c, v => ∃ m, ρ.cap c = some m ∧ v = sliceOf m
noncomputable def V1R (ρ : Rho) : A1 → Value → Prop
  | .c x, v => CR V ρ x v
  | .agg l, v => ∃ cs, v = .agg cs ∧ F2 (CR V ρ) l cs.toList
noncomputable def VR (ρ : Rho) : AV → Value → Prop
  | .any, _ => True
  | .undef, v => v = undef
  | .one x, v => V1R V ρ x v
  | .tup l, v => ∃ vs, v = .tuple vs ∧ F2 (V1R V ρ) l vs.toList
  | .fn f cap, v => ∃ cs, v = .func (.func f) #[] cs ∧ F2 (CR V ρ) cap cs.toList
noncomputable def Le (ρ ρ' : Rho) : Prop := (∀ i b, ρ.blk i = some b → ρ'.blk i = some b) ∧ (∀ i b, ρ.cap i = some b → ρ'.cap i = some b)
theorem Le.refl (ρ : Rho) : Le ρ ρ := ⟨fun _ _ h => h, fun _ _ h => h⟩
theorem Le.trans {a b c : Rho} (h : Le a b) (k : Le b c) : Le a c := ⟨fun i x hx => k.1 i x (h.1 i x hx), fun i x hx => k.2 i x (h.2 i x hx)⟩
theorem CapR.mono {ρ ρ' : Rho} (h : Le ρ ρ') : ∀ {c : Cap} {m : Nat}, CapR ρ c m → CapR ρ' c m
  | .lit _, _, hc => hc
  | .sym _, _, hc => h.2 _ _ hc
theorem CR.mono {ρ ρ' : Rho} (h : Le ρ ρ') : ∀ {x : AC} {v : Value}, CR V ρ x v → CR V ρ' x v
  | .int .., _, hx => hx
  | .bool .., _, hx => hx
  | .sym .., _, hx => hx
  | .ptr none, _, hx => hx
  | .ptr (some _), _, ⟨b, h1, h2⟩ => ⟨b, h.1 _ _ h1, h2⟩
  | .slice none _ _, _, ⟨m, h1, h2⟩ => ⟨m, h1.mono h, h2⟩
  | .slice (some _) _ _, _, ⟨b, m, h1, h2, h3⟩ => ⟨b, m, h.1 _ _ h1, h2.mono h, h3⟩
  | .void, _, hx => hx
  | .nilFunc, _, hx => hx
  | .nilIface, _, hx => hx
  | .fn _, _, hx => hx
  | .any, _, hx => hx
  | .num _, _, hx => hx
  | .bo, _, hx => hx
  | .str _, _, hx => hx
  | .rng _, _, hx => hx
  | .ivl _ _ _, _, hx => hx
  | .tag _ _, _, ⟨m, h1, h2⟩ => ⟨m, h.2 _ _ h1, h2⟩
  | .nat _ _, _, ⟨m, h1, h2⟩ => ⟨m, h.2 _ _ h1, h2⟩
  | .cv _, _, ⟨m, h1, h2⟩ => ⟨m, h.2 _ _ h1, h2⟩
theorem V1R.mono {ρ ρ' : Rho} (h : Le ρ ρ') : ∀ {x : A1} {v : Value}, V1R V ρ x v → V1R V ρ' x v
  | .c _, _, hx => CR.mono V h hx
  | .agg _, _, ⟨cs, h1, h2⟩ => ⟨cs, h1, h2.mono fun _ _ k => CR.mono V h k⟩
theorem VR.mono {ρ ρ' : Rho} (h : Le ρ ρ') : ∀ {x : AV} {v : Value}, VR V ρ x v → VR V ρ' x v
  | .any, _, hx => hx
  | .undef, _, hx => hx
  | .one _, _, hx => V1R.mono V h hx
  | .tup _, _, ⟨vs, h1, h2⟩ => ⟨vs, h1, h2.mono fun _ _ k => V1R.mono V h k⟩
  | .fn _ _, _, ⟨cs, h1, h2⟩ => ⟨cs, h1, h2.mono fun _ _ k => CR.mono V h k⟩
theorem CR.one {ρ : Rho} (hV : ∀ i, (V i).oneCell' = true) : ∀ {x : AC} {v : Value}, CR V ρ x v → v.oneCell' = true
  | .int .., _, hx => by rw [hx]; rfl
  | .bool .., _, hx => by rw [hx]; rfl
  | .sym i, _, hx => by rw [hx]; exact hV i
  | .ptr none, _, hx => by rw [hx]; rfl
  | .ptr (some _), _, ⟨b, h1, h2⟩ => by rw [h2]; rfl
  | .slice none _ _, _, ⟨m, h1, h3, h2⟩ => by rw [h2]; rfl
  | .slice (some _) _ _, _, ⟨b, m, h1, h2, _, h3⟩ => by rw [h3]; rfl
  | .void, _, ⟨a, m, h⟩ => by rw [h]; rfl
  | .nilFunc, _, hx => by rw [hx]; rfl
  | .nilIface, _, hx => by rw [hx]; rfl
  | .fn _, _, hx => by rw [hx]; rfl
  | .any, _, hx => hx
  | .num _, _, ⟨_, h⟩ => by rw [h]; rfl
  | .bo, _, ⟨_, h⟩ => by rw [h]; rfl
  | .str _, _, hx => by rw [hx]; rfl
  | .rng _, _, ⟨_, _, h⟩ => by rw [h]; rfl
  | .ivl _ _ _, _, ⟨_, _, _, h⟩ => by rw [h]; rfl
  | .tag _ _, _, ⟨_, _, _, h⟩ => by rw [h]; rfl
  | .nat _ _, _, ⟨_, _, _, h⟩ => by rw [h]; rfl
  | .cv _, _, ⟨_, _, h⟩ => by rw [h]; rfl
/-- What a value says of a whole block: its address and its cells, or choices that stand at some place. -/
noncomputable def PB (v : Value) (b : Nat) (cs : Array Value) : Prop :=
  v = .func (.func 0) #[] (#[.pointer (some ⟨b, 0, none⟩)] ++ cs) ∨ ∃ (A : Option Addr) (n c p : Nat), v = .func (.func 1) #[] #[.slice A n c] ∧ p ≤ n ∧ cs = #[.slice A n c, .int .i64 (p : Nat)]
/-- What a block holds behind the cells that are told. -/
noncomputable def MR (ρ : Rho) (b : Nat) (B : Blk) (cs : Array Value) (post : List Value) : Prop :=
  match B.more with | none => post = [] | some (j, sz) => if sz = 0 then B.cells = [] ∧ PB (V j) b cs else ∃ m, ρ.cap j = some m ∧ cs.size = m * sz
/-- What a block holds. -/
noncomputable def BR (ρ : Rho) (b : Nat) (B : Blk) (cs : Array Value) : Prop :=
  ∃ pre post, cs.toList = pre ++ post ∧ F2 (CR V ρ) B.cells pre ∧ MR V ρ b B cs post
theorem BR.mono {ρ ρ' : Rho} (h : Le ρ ρ') {b : Nat} {B : Blk} {cs : Array Value} (hb : BR V ρ b B cs) : BR V ρ' b B cs := by
  obtain ⟨pre, post, h1, h2, h3⟩ := hb
  refine ⟨pre, post, h1, h2.mono fun _ _ k => CR.mono V h k, ?_⟩
  unfold MR at h3 ⊢
  cases hm : B.more with
  | none => simpa [hm] using h3
  | some q =>
    simp only [hm] at h3 ⊢
    by_cases hz : q.2 = 0
    · rw [if_pos hz] at h3 ⊢
      exact h3
    · rw [if_neg hz] at h3 ⊢
      obtain ⟨m, k1, k2⟩ := h3
      exact ⟨m, h.2 _ _ k1, k2⟩
/-- Cells laid over those that are told. -/
theorem br_put {ρ : Rho} {b : Nat} {B : Blk} {cs : Array Value} {pre post : List Value} (h3 : cs.toList = pre ++ post) (h4 : F2 (CR V ρ) B.cells pre) (h5 : MR V ρ b B cs post) {off : Nat} {xs m : List AC} {ys : List Value} (hx : F2 (CR V ρ) xs ys) (ho : over B.cells off xs = some m) :
    BR V ρ b { B with cells := m } ((pre.take off ++ ys ++ pre.drop (off + ys.length)) ++ post).toArray := by
  obtain ⟨k1, k2⟩ := F2.over off h4 hx ho
  refine ⟨_, post, rfl, k1, ?_⟩
  unfold MR at h5 ⊢
  cases hmo : B.more with
  | none => simpa [hmo] using h5
  | some q =>
    simp only [hmo] at h5 ⊢
    by_cases hz : q.2 = 0
    · rw [if_pos hz] at h5 ⊢
      obtain ⟨q1, q2⟩ := h5
      rw [q1] at ho h4
      have hp : pre = [] := List.eq_nil_of_length_eq_zero h4.length.symm
      subst hp
      cases off with
      | succ o => cases xs <;> cases ho
      | zero =>
        cases xs with
        | cons _ _ => cases ho
        | nil =>
          have hy : ys = [] := List.eq_nil_of_length_eq_zero hx.length.symm
          subst hy
          simp only [over_z, over_c, over_n, over_s, over_e, Option.some.injEq] at ho
          subst ho
          refine ⟨rfl, ?_⟩
          have e : (((([] : List Value).take 0 ++ [] ++ ([] : List Value).drop (0 + ([] : List Value).length)) ++ post).toArray) = cs := by
            apply Array.ext'
            rw [h3]
            simp
          rw [e]
          exact q2
    · rw [if_neg hz] at h5 ⊢
      obtain ⟨q1, q2, q3⟩ := h5
      refine ⟨q1, q2, ?_⟩
      rw [← q3, ← Array.length_toList (xs := cs), h3]
      simp only [List.size_toArray, List.length_append, List.length_take, List.length_drop]
      omega
/-- A world as the interpreter's state tells it. -/
structure Rep (ρ : Rho) (s : St) (w : World) : Prop where
  h : ∀ i B, look s.heap i = some B → ∃ b cs, ρ.blk i = some b ∧ w.heap[b]? = some (.cells cs B.ty (0, 0)) ∧ BR V ρ b B cs
  inj : ∀ i j B C b, look s.heap i = some B → look s.heap j = some C → ρ.blk i = some b → ρ.blk j = some b → i = j
  bnd : ∀ i b, ρ.blk i = some b → b < w.heap.size
  lt : ∀ i B, look s.heap i = some B → i < s.next
/-- The slots. -/
structure TR (ρ : Rho) (t : Sl) (a : Act) : Prop where
  z : a.tmps.size = t.length
  v : ∀ d, VR V ρ (lget t d) (a.tmps.getD d undef)
  df : a.defers = []
theorem TR.mono {ρ ρ' : Rho} (h : Le ρ ρ') {t : Sl} {a : Act} (ht : TR V ρ t a) : TR V ρ' t a := ⟨ht.z, fun d => VR.mono V h (ht.v d), ht.df⟩
/-- The numbers that a run will give are free. -/
structure Free (ρ : Rho) (s s' : St) : Prop where
  b : ∀ i, s.next ≤ i → i < s'.next → ρ.blk i = none
  c : ∀ i, s.ncap ≤ i → i < s'.ncap → ρ.cap i = none
/-- From one state and world to a later one. -/
structure Ext (ρ : Rho) (s : St) (w : World) (ρ' : Rho) (s' : St) (w' : World) : Prop where
  blk : ∀ i, (i < s.next ∨ s'.next ≤ i) → ρ'.blk i = ρ.blk i
  cap : ∀ i, (i < s.ncap ∨ s'.ncap ≤ i) → ρ'.cap i = ρ.cap i
  n : s.next ≤ s'.next
  c : s.ncap ≤ s'.ncap
  d : ∀ i ∈ s.dirty, i ∈ s'.dirty
  fr : ∀ b, b < w.heap.size → (∀ i ∈ s'.dirty, i < s.next → ρ.blk i ≠ some b) → w'.heap[b]? = w.heap[b]?
  new : ∀ i b, s.next ≤ i → i < s'.next → ρ'.blk i = some b → w.heap.size ≤ b ∨ ∃ j ∈ s'.dirty, j < s.next ∧ ρ.blk j = some b
  own : ∀ j ∈ s'.dirty, j ∈ s.dirty ∨ s.next ≤ j ∨ (look s.heap j).isSome = true
  sub : ∀ j, j < s.next → (look s'.heap j).isSome = true → (look s.heap j).isSome = true
  os : w'.os = w.os
  tape : w'.tape = w.tape
  out : w'.output = w.output
  size : w.heap.size ≤ w'.heap.size
theorem Ext.refl (ρ : Rho) (s : St) (w : World) : Ext ρ s w ρ s w :=
  ⟨fun _ _ => rfl, fun _ _ => rfl, Nat.le_refl _, Nat.le_refl _, fun _ h => h, fun _ _ _ => rfl, fun i b h1 h2 => absurd h2 (by omega), fun j h => .inl h, fun _ _ h => h, rfl, rfl, rfl, Nat.le_refl _⟩
theorem Ext.trans {ρ1 ρ2 ρ3 : Rho} {s1 s2 s3 : St} {w1 w2 w3 : World} (h : Ext ρ1 s1 w1 ρ2 s2 w2) (k : Ext ρ2 s2 w2 ρ3 s3 w3) : Ext ρ1 s1 w1 ρ3 s3 w3 where
  blk := fun i hi => by
    have hn := h.n
    have kn := k.n
    rw [k.blk i (by omega), h.blk i (by omega)]
  cap := fun i hi => by
    have hn := h.c
    have kn := k.c
    rw [k.cap i (by omega), h.cap i (by omega)]
  n := Nat.le_trans h.n k.n
  c := Nat.le_trans h.c k.c
  d := fun i hi => k.d i (h.d i hi)
  fr := fun b hb hd => by
    have e1 := h.fr b hb (fun i hi hl => hd i (k.d i hi) hl)
    have e2 := k.fr b (Nat.lt_of_lt_of_le hb h.size) (fun i hi hl he => by
      by_cases h1 : i < s1.next
      · exact hd i hi h1 (by rw [← h.blk i (.inl h1)]; exact he)
      · rcases h.new i b (by omega) hl he with h2 | ⟨j, h2, h3, h4⟩
        · omega
        · exact hd j (k.d j h2) h3 h4)
    exact e2.trans e1
  new := fun i b h1 h2 he => by
    by_cases h3 : i < s2.next
    · rcases h.new i b h1 h3 (by rw [← k.blk i (.inl h3)]; exact he) with h4 | ⟨j, h4, h5, h6⟩
      · exact .inl h4
      · exact .inr ⟨j, k.d j h4, h5, h6⟩
    · rcases k.new i b (by omega) h2 he with h4 | ⟨j, h4, h5, h6⟩
      · exact .inl (Nat.le_trans h.size h4)
      · by_cases h7 : j < s1.next
        · exact .inr ⟨j, h4, h7, by rw [← h.blk j (.inl h7)]; exact h6⟩
        · rcases h.new j b (by omega) h5 h6 with h8 | ⟨j', h8, h9, h10⟩
          · exact .inl h8
          · exact .inr ⟨j', k.d j' h8, h9, h10⟩
  own := fun j hj => by
    rcases k.own j hj with h1 | h1 | h1
    · exact h.own j h1
    · exact .inr (.inl (Nat.le_trans h.n h1))
    · by_cases h2 : j < s1.next
      · exact .inr (.inr (h.sub j h2 h1))
      · exact .inr (.inl (by omega))
  sub := fun j hj h1 => h.sub j hj (k.sub j (Nat.lt_of_lt_of_le hj h.n) h1)
  os := k.os.trans h.os
  tape := k.tape.trans h.tape
  out := k.out.trans h.out
  size := Nat.le_trans h.size k.size
theorem Ext.le {ρ ρ' : Rho} {s s' : St} {w w' : World} (h : Ext ρ s w ρ' s' w') (hf : Free ρ s s') : Le ρ ρ' := by
  constructor
  · intro i b hb
    by_cases h1 : i < s.next ∨ s'.next ≤ i
    · rw [h.blk i h1]
      exact hb
    · rw [hf.b i (by omega) (by omega)] at hb
      cases hb
  · intro i b hb
    by_cases h1 : i < s.ncap ∨ s'.ncap ≤ i
    · rw [h.cap i h1]
      exact hb
    · rw [hf.c i (by omega) (by omega)] at hb
      cases hb
theorem Free.left {ρ : Rho} {s s1 s2 : St} (h : Free ρ s s2) (hn : s1.next ≤ s2.next) (hc : s1.ncap ≤ s2.ncap) : Free ρ s s1 :=
  ⟨fun i h1 h2 => h.b i h1 (by omega), fun i h1 h2 => h.c i h1 (by omega)⟩
theorem Free.right {ρ ρ1 : Rho} {s s1 s2 : St} {w w1 : World} (h : Free ρ s s2) (e : Ext ρ s w ρ1 s1 w1) : Free ρ1 s1 s2 :=
  ⟨fun i h1 h2 => by rw [e.blk i (.inr h1)]; exact h.b i (Nat.le_trans e.n h1) h2, fun i h1 h2 => by rw [e.cap i (.inr h1)]; exact h.c i (Nat.le_trans e.c h1) h2⟩
end
end Ab
end Go.Proofs.YtbfppnppijcnlaaGreat
