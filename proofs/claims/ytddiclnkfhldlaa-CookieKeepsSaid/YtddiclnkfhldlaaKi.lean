/-
  The law CookieKeeps: what is known beside, and that its tables say what the program does.
  Conditions: none.
-/
import Derived.Test.YtddiclnkfhldlaaKe
import Derived.Test.YtddiclnkfhldlaaKr
import Derived.Test.YtddiclnkfhldlaaHalf
namespace Go.Proofs.Ytddiclnkfhldlaa
namespace Ab
open Go.RowKit
set_option linter.unusedVariables false
set_option linter.unusedSimpArgs false
set_option maxRecDepth 100000
def addv (v : Value) (n : Int) : Value := match v with | .int k a => .int k (k.wrap (a + n)) | v => v
def subv (v u : Value) : Value := match v, u with | .int k a, .int _ b => .int k (k.wrap (a - b)) | v, _ => v
theorem addv_one {v : Value} {n : Int} (h : v.oneCell' = true) : (addv v n).oneCell' = true := by
  unfold addv
  split
  · rfl
  · exact h
theorem subv_one {v u : Value} (h : v.oneCell' = true) : (subv v u).oneCell' = true := by
  unfold subv
  split
  · rfl
  · exact h
/-- The symbols that follow from others. -/
def clo (W : Nat → Value) : Nat → Value := fun j =>
  if j = 21 then addv (W 20) 3 else if j = 61 then addv (W 60) 1 else if 100 ≤ j ∧ j < 300 ∧ (j - 100) % 20 = 10 then subv (addv (W 20) 3) (W (j - 1)) else W j
theorem clo_one {W : Nat → Value} (h : ∀ i, (W i).oneCell' = true) (j : Nat) : (clo W j).oneCell' = true := by
  unfold clo
  split
  · exact addv_one (h _)
  · split
    · exact addv_one (h _)
    · split
      · exact subv_one (addv_one (h _))
      · exact h _
theorem clo_p {W : Nat → Value} {j : Nat} (h : pK j = true) : clo W j = W j := by
  unfold pK at h
  simp only [Bool.and_eq_true, Bool.not_eq_true', Bool.and_eq_false_iff] at h
  obtain ⟨h1, h2, h3⟩ := h
  have e1 : j ≠ 21 := fun e => by subst e; cases h1
  have e2 : j ≠ 61 := fun e => by subst e; cases h2
  unfold clo
  rw [if_neg e1, if_neg e2, if_neg]
  rintro ⟨k1, k2, k3⟩
  rcases h3 with h | h | h
  · rw [Nat.ble_eq_true_of_le k1] at h
    cases h
  · have : Nat.blt j 300 = true := Nat.ble_eq_true_of_le k2
    rw [this] at h
    cases h
  · rw [k3] at h
    cases h
/-- A term that begins at symbol i. -/
def TmAt (W : Nat → Value) (DK : Nat → Prop) (wK : World) (i : Nat) (t : Tm) (A : Option Addr) (c : Nat) : Prop :=
  W i = .int .i64 t.op ∧ W (i + 1) = .int .i64 t.val ∧ W (i + 2) = .slice A t.args.length c ∧ TrS DK wK t A c
structure Ent (W : Nat → Value) (DK : Nat → Prop) (wK : World) (b : Nat) : Prop where
  i0 : ∃ a, W b = .int .i64 a
  i1 : ∃ a, W (b + 1) = .int .i64 a
  i2 : ∃ a, W (b + 2) = .int .i64 a
  i9 : ∃ a, W (b + 9) = .int .i64 a
  t3 : ∃ t A c, TmAt W DK wK (b + 3) t A c
  t6 : ∃ t A c, TmAt W DK wK (b + 6) t A c
/-- A function of two like arguments yields true, as long as some blocks hold what they held. -/
def Rfl (f : Nat) (v : Value) (DK : Nat → Prop) (wK : World) : Prop := ∀ w2, (∀ b, DK b → b < w2.heap.size ∧ w2.heap[b]? = wK.heap[b]?) → Calls Try.prog f #[v, v] w2 fun e w3 => e = .returned (.bool true) ∧ RowKit.Below w2.heap.size w2 w3
structure Fct (W : Nat → Value) (DK : Nat → Prop) (wK : World) (n : Nat) : Prop where
  one : ∀ i, (W i).oneCell' = true
  v1 : ∃ a, W 1 = .int .i64 a
  v2 : ∃ a, W 2 = .int .i64 a
  v20 : ∃ a, W 20 = .int .i64 a
  v60 : ∃ a, W 60 = .int .i64 a
  d0 : Rfl 62 (W 30) DK wK
  d1 : Rfl 63 (W 31) DK wK
  ents : ∀ e, e < n → Ent W DK wK (100 + 20 * e)
  x : Ent W DK wK 280
theorem inE_ok {n i : Nat} (h : inE n i = true) {W : Nat → Value} {DK : Nat → Prop} {wK : World} (F : Fct W DK wK n) : 100 ≤ i ∧ i < 300 ∧ Ent W DK wK (100 + 20 * ((i - 100) / 20)) := by
  unfold inE at h
  simp only [Bool.and_eq_true, Bool.or_eq_true] at h
  obtain ⟨h1, h2, h3⟩ := h
  have h1 := Nat.le_of_ble_eq_true h1
  have h2 : i + 1 ≤ 300 := Nat.le_of_ble_eq_true h2
  refine ⟨h1, h2, ?_⟩
  rcases h3 with h | h
  · exact F.ents _ (Nat.le_of_ble_eq_true h)
  · rw [Nat.eq_of_beq_eq_true h]
    exact F.x
section
variable {W : Nat → Value} {DK : Nat → Prop} {wK : World} {n : Nat}
theorem isI_ok (F : Fct W DK wK n) {i : Nat} (h : isI n i = true) : i < 900 ∧ ∃ a, clo W i = .int .i64 a := by
  unfold isI at h
  simp only [Bool.or_eq_true, Bool.and_eq_true] at h
  have low : ∀ j, pK j = true → clo W j = W j := fun j hj => clo_p hj
  rcases h with h | h | h | h | h | ⟨h, hr⟩
  · have h := Nat.eq_of_beq_eq_true h
    subst h
    refine ⟨by omega, ?_⟩
    rw [low 1 rfl]
    exact F.v1
  · have h := Nat.eq_of_beq_eq_true h
    subst h
    refine ⟨by omega, ?_⟩
    rw [low 2 rfl]
    exact F.v2
  · have h := Nat.eq_of_beq_eq_true h
    subst h
    refine ⟨by omega, ?_⟩
    rw [low 20 rfl]
    exact F.v20
  · have h := Nat.eq_of_beq_eq_true h
    subst h
    refine ⟨by omega, ?_⟩
    obtain ⟨a, ha⟩ := F.v20
    refine ⟨IntKind.wrap .i64 (a + 3), ?_⟩
    show addv (W 20) 3 = _
    rw [ha]
    rfl
  · have h := Nat.eq_of_beq_eq_true h
    subst h
    refine ⟨by omega, ?_⟩
    rw [low 60 rfl]
    exact F.v60
  · obtain ⟨h1, h2, E⟩ := inE_ok h F
    refine ⟨by omega, ?_⟩
    have hd : i = 100 + 20 * ((i - 100) / 20) + (i - 100) % 20 := by omega
    have hlt : (i - 100) % 20 < 3 ∨ (i - 100) % 20 = 9 := by
      rcases hr with hr | hr
      · exact .inl (Nat.le_of_ble_eq_true hr)
      · exact .inr (Nat.eq_of_beq_eq_true hr)
    have hp : clo W i = W i := by
      unfold clo
      rw [if_neg (by omega), if_neg (by omega), if_neg (by omega)]
    rw [hp]
    rcases hlt with hlt | hlt
    · rcases (by omega : (i - 100) % 20 = 0 ∨ (i - 100) % 20 = 1 ∨ (i - 100) % 20 = 2) with e | e | e <;> rw [e] at hd <;> rw [hd]
      · exact E.i0
      · exact E.i1
      · exact E.i2
    · rw [hlt] at hd
      rw [hd]
      exact E.i9
theorem isTm_ok (F : Fct W DK wK n) {i : Nat} (h : isTm n i = true) : i + 2 < 900 ∧ (∃ t A c, TmAt W DK wK i t A c) ∧ clo W i = W i ∧ clo W (i + 1) = W (i + 1) ∧ clo W (i + 2) = W (i + 2) := by
  unfold isTm at h
  simp only [Bool.or_eq_true, Bool.and_eq_true] at h
  obtain ⟨h, hr⟩ := h
  obtain ⟨h1, h2, E⟩ := inE_ok h F
  have hd : i = 100 + 20 * ((i - 100) / 20) + (i - 100) % 20 := by omega
  have hlt : (i - 100) % 20 = 3 ∨ (i - 100) % 20 = 6 := by
    rcases hr with hr | hr
    · exact .inl (Nat.eq_of_beq_eq_true hr)
    · exact .inr (Nat.eq_of_beq_eq_true hr)
  have cl : ∀ j, 21 < j → j ≠ 61 → (j - 100) % 20 ≠ 10 → clo W j = W j := by
    intro j a b c
    unfold clo
    rw [if_neg (by omega), if_neg (by omega), if_neg (by omega)]
  refine ⟨by omega, ?_, cl _ (by omega) (by omega) (by omega), cl _ (by omega) (by omega) (by omega), cl _ (by omega) (by omega) (by omega)⟩
  rcases hlt with e | e <;> rw [e] at hd <;> rw [hd]
  · exact E.t3
  · exact E.t6
/-- What a class says is so. -/
structure ClOK (W : Nat → Value) (DK : Nat → Prop) (wK : World) (n : Nat) (c : Cl) : Prop where
  nn : c.n = n
  pq : ∀ x ∈ c.pq, ∃ a b, x.1 < 900 ∧ x.2.1 < 900 ∧ clo W x.1 = .int .i64 a ∧ clo W x.2.1 = .int .i64 b ∧ x.2.2 = decide (a = b)
  lt : ∀ x ∈ c.lt, ∃ a, x.1 < 900 ∧ clo W x.1 = .int .i64 a ∧ x.2.2 = decide (a < x.2.1)
  tq : ∀ x ∈ c.tq, ∃ t A a u B b, TmAt W DK wK x.1 t A a ∧ TmAt W DK wK x.2.1 u B b ∧ x.2.2 = equT t u
theorem findP_mem : ∀ {l : List (Nat × Nat × Bool)} {i j : Nat} {b : Bool}, findP l i j = some b → (i, j, b) ∈ l
  | x :: r, i, j, b, h => by
    simp only [findP] at h
    cases hk : (Nat.beq x.1 i && Nat.beq x.2.1 j)
    · simp only [hk, cond_false] at h
      exact List.mem_cons_of_mem _ (findP_mem h)
    · simp only [hk, cond_true, Option.some.injEq] at h
      simp only [Bool.and_eq_true] at hk
      have e1 := Nat.eq_of_beq_eq_true hk.1
      have e2 := Nat.eq_of_beq_eq_true hk.2
      obtain ⟨p, q, z⟩ := x
      simp only at e1 e2 h
      subst e1
      subst e2
      subst h
      simp
theorem findL_mem : ∀ {l : List (Nat × Int × Bool)} {i : Nat} {j : Int} {b : Bool}, findL l i j = some b → (i, j, b) ∈ l
  | x :: r, i, j, b, h => by
    simp only [findL] at h
    cases hk : (Nat.beq x.1 i && decide (x.2.1 = j))
    · simp only [hk, cond_false] at h
      exact List.mem_cons_of_mem _ (findL_mem h)
    · simp only [hk, cond_true, Option.some.injEq] at h
      simp only [Bool.and_eq_true, decide_eq_true_eq] at hk
      have e1 := Nat.eq_of_beq_eq_true hk.1
      have e2 := hk.2
      obtain ⟨p, q, z⟩ := x
      simp only at e1 e2 h
      subst e1
      subst e2
      subst h
      simp
variable {q : Ls} {ga : Nat} {row : Array Value}
abbrev VK (W : Nat → Value) (q : Ls) (ga : Nat) (row : Array Value) : Nat → Value := vL (clo W) q ga row 0 0
theorem tabK_ok (F : Fct W DK wK n) {c : Cl} (C : ClOK W DK wK n c) {op : BinOp} {a b z : AC} (h : tabK c op a b = some z) (ρ : Rho) (x y : Value) (hx : CR (VK W q ga row) ρ a x) (hy : CR (VK W q ga row) ρ b y) : ∃ k n k' n' e, x = .int k n ∧ y = .int k' n' ∧ CR (VK W q ga row) ρ z e ∧ ∀ xt, binOp op xt x y = .pure e := by
  have low : ∀ {i : Nat}, i < 900 → VK W q ga row i = clo W i := fun hi => vL_low hi
  have key : ∀ (n m : Int) (r : Bool), cmpB op n m = some r → z = .bool r → x = .int .i64 n → y = .int .i64 m → ∃ k n k' n' e, x = .int k n ∧ y = .int k' n' ∧ CR (VK W q ga row) ρ z e ∧ ∀ xt, binOp op xt x y = .pure e := by
    intro n m r hr hz h1 h2
    subst hz
    exact ⟨_, _, _, _, .bool r, h1, h2, rfl, fun xt => by rw [h1, h2]; exact cmpB_ok hr .i64 xt⟩
  unfold tabK at h
  split at h
  · rename_i i j
    have hx : x = VK W q ga row i := hx
    have hy : y = VK W q ga row j := hy
    by_cases hij : i = j
    · subst hij
      simp only [Nat.beq_refl, cond_true] at h
      cases hI : isI c.n i
      · simp [hI] at h
      · simp only [hI, cond_true] at h
        rw [C.nn] at hI
        obtain ⟨hlt, v, hv⟩ := isI_ok F hI
        rw [low hlt, hv] at hx hy
        unfold eqK at h
        split at h
        · injection h with h
          exact key v v true (by simp [cmpB]) h.symm hx hy
        · injection h with h
          exact key v v false (by simp [cmpB]) h.symm hx hy
        · cases h
    · simp only [beq_no hij, cond_false] at h
      split at h
      · cases hk : (Nat.beq i 21 && (isI c.n j && Nat.beq ((j - 100) % 20) 9))
        · simp [hk] at h
        · simp only [hk, cond_true, Option.some.injEq] at h
          subst h
          simp only [Bool.and_eq_true] at hk
          obtain ⟨k1, k2, k3⟩ := hk
          have k1 := Nat.eq_of_beq_eq_true k1
          have k3 := Nat.eq_of_beq_eq_true k3
          subst k1
          rw [C.nn] at k2
          obtain ⟨hlt, v, hv⟩ := isI_ok F k2
          have hj : 100 ≤ j ∧ j < 300 := by
            unfold isI at k2
            simp only [Bool.or_eq_true, Bool.and_eq_true] at k2
            rcases k2 with h | h | h | h | h | ⟨h, _⟩
            · have h := Nat.eq_of_beq_eq_true h; omega
            · have h := Nat.eq_of_beq_eq_true h; omega
            · have h := Nat.eq_of_beq_eq_true h; omega
            · have h := Nat.eq_of_beq_eq_true h; omega
            · have h := Nat.eq_of_beq_eq_true h; omega
            · obtain ⟨h1, h2, _⟩ := inE_ok h F
              exact ⟨h1, h2⟩
          obtain ⟨a0, ha0⟩ := F.v20
          rw [low hlt, hv] at hy
          have e21 : clo W 21 = .int .i64 (IntKind.wrap .i64 (a0 + 3)) := by
            show addv (W 20) 3 = _
            rw [ha0]
            rfl
          rw [low (by omega), e21] at hx
          refine ⟨_, _, _, _, _, hx, hy, rfl, fun xt => ?_⟩
          have e2 : clo W (j + 1) = subv (addv (W 20) 3) (W j) := by
            unfold clo
            rw [if_neg (by omega), if_neg (by omega), if_pos (by omega)]
            rfl
          have e3 : clo W j = W j := by
            unfold clo
            rw [if_neg (by omega), if_neg (by omega), if_neg (by omega)]
          rw [low (by omega), e2, ← e3, hv, ha0, hx, hy]
          rfl
      · split at h
        · rename_i e he
          injection h with h
          obtain ⟨a, b, l1, l2, p1, p2, p3⟩ := C.pq _ (findP_mem he)
          simp only at l1 l2 p1 p2 p3
          rw [low l1, p1] at hx
          rw [low l2, p2] at hy
          exact key a b e (by rw [p3]; simp only [cmpB, Option.some.injEq]; rfl) h.symm hx hy
        · cases h
      · split at h
        · rename_i e he
          injection h with h
          obtain ⟨a, b, l1, l2, p1, p2, p3⟩ := C.pq _ (findP_mem he)
          simp only at l1 l2 p1 p2 p3
          rw [low l1, p1] at hx
          rw [low l2, p2] at hy
          exact key a b (!e) (by rw [p3]; simp only [cmpB, Option.some.injEq]; rfl) h.symm hx hy
        · cases h
      · cases h
  · rename_i i m
    have hx : x = VK W q ga row i := hx
    have hy : y = .int .i64 m := hy
    split at h
    · cases hk : (Nat.beq i 20 && decide (m = 3))
      · simp only [hk, cond_false] at h
        cases hk2 : (Nat.beq i 60 && decide (m = 1))
        · simp [hk2] at h
        · simp only [hk2, cond_true, Option.some.injEq] at h
          subst h
          simp only [Bool.and_eq_true, decide_eq_true_eq] at hk2
          have k1 := Nat.eq_of_beq_eq_true hk2.1
          have k2 := hk2.2
          subst k1
          subst k2
          obtain ⟨a0, ha0⟩ := F.v60
          have e60 : clo W 60 = .int .i64 a0 := by rw [clo_p (j := 60) rfl, ha0]
          rw [low (by omega), e60] at hx
          refine ⟨_, _, _, _, _, hx, hy, rfl, fun xt => ?_⟩
          rw [low (by omega), show clo W 61 = addv (W 60) 1 from rfl, ha0, hx, hy]
          rfl
      · simp only [hk, cond_true, Option.some.injEq] at h
        subst h
        simp only [Bool.and_eq_true, decide_eq_true_eq] at hk
        have k1 := Nat.eq_of_beq_eq_true hk.1
        have k2 := hk.2
        subst k1
        subst k2
        obtain ⟨a0, ha0⟩ := F.v20
        have e20 : clo W 20 = .int .i64 a0 := by rw [clo_p (j := 20) rfl, ha0]
        rw [low (by omega), e20] at hx
        refine ⟨_, _, _, _, _, hx, hy, rfl, fun xt => ?_⟩
        rw [low (by omega), show clo W 21 = addv (W 20) 3 from rfl, ha0, hx, hy]
        rfl
    · split at h
      · rename_i e he
        injection h with h
        obtain ⟨a, l1, p1, p2⟩ := C.lt _ (findL_mem he)
        simp only at l1 p1 p2
        rw [low l1, p1] at hx
        exact key a m e (by rw [p2]; rfl) h.symm hx hy
      · cases h
    · split at h
      · rename_i e he
        injection h with h
        obtain ⟨a, l1, p1, p2⟩ := C.lt _ (findL_mem he)
        simp only at l1 p1 p2
        rw [low l1, p1] at hx
        refine key a m (!e) ?_ h.symm hx hy
        rw [p2]
        simp only [cmpB, Option.some.injEq]
        rw [Bool.eq_iff_iff]
        simp
      · cases h
    · cases h
  · cases h
theorem kE_ok (F : Fct W DK wK n) {c : Cl} (C : ClOK W DK wK n c) : CallOKK DK wK Try.prog (VK W q ga row) (kE c) := by
  have low : ∀ {i : Nat}, i < 900 → VK W q ga row i = clo W i := fun hi => vL_low hi
  intro f args s v s' h ρ w vals hargs hr hf hk
  unfold kE at h
  split at h
  · rename_i i j
    cases hb : ((Nat.beq f 62 && (Nat.beq i 30 && Nat.beq j 30)) || (Nat.beq f 63 && (Nat.beq i 31 && Nat.beq j 31)))
    · simp [hb] at h
    · simp only [hb, cond_true, Option.some.injEq, Prod.mk.injEq] at h
      obtain ⟨rfl, rfl⟩ := h
      have two : ∀ m, m < 900 → pK m = true → i = m → j = m → vals = #[W m, W m] := by
        intro m hm hp d1 d2
        apply Array.ext'
        match hl : vals.toList, hargs with
        | [x, y], hv =>
          have e1 : x = VK W q ga row i := hv.1
          have e2 : y = VK W q ga row j := hv.2.1
          rw [e1, e2, d1, d2, low hm, clo_p hp]
      have fin : ∀ m, Rfl f (W m) DK wK → vals = #[W m, W m] → Calls Try.prog f vals w fun e w' => ∃ c ρ', e = .returned c ∧ Goes (VK W q ga row) ρ s w s w' ρ' ∧ VR (VK W q ga row) ρ' (.one (.c (.bool true))) c := by
        intro m hR hv
        rw [hv]
        refine (hR w (fun b hb => ⟨hk.lt b hb, hk.eq b hb⟩)).mono ?_
        rintro e w' ⟨rfl, hbl⟩
        exact ⟨_, ρ, rfl, goes_keep hr hbl, rfl⟩
      simp only [Bool.or_eq_true, Bool.and_eq_true] at hb
      rcases hb with ⟨h1, h2, h3⟩ | ⟨h1, h2, h3⟩
      · have h1 := Nat.eq_of_beq_eq_true h1
        subst h1
        exact fin 30 F.d0 (two 30 (by omega) rfl (Nat.eq_of_beq_eq_true h2) (Nat.eq_of_beq_eq_true h3))
      · have h1 := Nat.eq_of_beq_eq_true h1
        subst h1
        exact fin 31 F.d1 (two 31 (by omega) rfl (Nat.eq_of_beq_eq_true h2) (Nat.eq_of_beq_eq_true h3))
  · rename_i x y
    cases hb : (Nat.beq f 14 || Nat.beq f 67)
    · simp [hb] at h
    · simp only [hb, cond_true] at h
      split at h
      · rename_i e he
        simp only [Option.some.injEq, Prod.mk.injEq] at h
        obtain ⟨rfl, rfl⟩ := h
        have fin : ∀ (t u : Tm) (A B : Option Addr) (a b : Nat), TrS DK wK t A a → TrS DK wK u B b → vals = #[.agg #[.int .i64 t.op, .int .i64 t.val, .slice A t.args.length a], .agg #[.int .i64 u.op, .int .i64 u.val, .slice B u.args.length b]] → e = equT t u → Calls Try.prog f vals w fun e' w' => ∃ c ρ', e' = .returned c ∧ Goes (VK W q ga row) ρ s w s w' ρ' ∧ VR (VK W q ga row) ρ' (.one (.c (.bool e))) c := by
          intro t u A B a b ht hu hv hE
          have ht : Tr w t A a := (ht.keep (w' := w) (fun b hb _ => hk.eq b hb)).tr
          have hu : Tr w u B b := (hu.keep (w' := w) (fun b hb _ => hk.eq b hb)).tr
          rw [hv]
          have post : ∀ (e' : Ending) (w' : World), (e' = .returned (.bool (equT t u)) ∧ RowKit.Below w.heap.size w w') → ∃ c ρ', e' = .returned c ∧ Goes (VK W q ga row) ρ s w s w' ρ' ∧ VR (VK W q ga row) ρ' (.one (.c (.bool e))) c := by
            rintro e' w' ⟨rfl, hbl⟩
            exact ⟨_, ρ, rfl, goes_keep hr hbl, by rw [hE]; rfl⟩
          simp only [Bool.or_eq_true] at hb
          rcases hb with h1 | h1
          · have h1 := Nat.eq_of_beq_eq_true h1
            subst h1
            exact (requal_any t u w A B a b ht hu).mono post
          · have h1 := Nat.eq_of_beq_eq_true h1
            subst h1
            exact (equal_any t u w A B a b ht hu).mono post
        unfold bothTm at he
        split at he
        · rename_i i i1 i2 j j1 j2
          cases hk2 : (Nat.beq i1 (i + 1) && (Nat.beq i2 (i + 2) && (Nat.beq j1 (j + 1) && (Nat.beq j2 (j + 2) && (isTm c.n i && isTm c.n j)))))
          · simp [hk2] at he
          · simp only [hk2, cond_true] at he
            simp only [Bool.and_eq_true] at hk2
            obtain ⟨k1, k2, k3, k4, k5, k6⟩ := hk2
            have k1 := Nat.eq_of_beq_eq_true k1
            have k2 := Nat.eq_of_beq_eq_true k2
            have k3 := Nat.eq_of_beq_eq_true k3
            have k4 := Nat.eq_of_beq_eq_true k4
            subst k1
            subst k2
            subst k3
            subst k4
            rw [C.nn] at k5 k6
            obtain ⟨l1, ⟨t, A, a, ht⟩, p1, p2, p3⟩ := isTm_ok F k5
            obtain ⟨l2, ⟨u, B, b, hu⟩, q1, q2, q3⟩ := isTm_ok F k6
            have arg : ∀ (t u : Tm) (A B : Option Addr) (a b : Nat), TmAt W DK wK i t A a → TmAt W DK wK j u B b → vals = #[.agg #[.int .i64 t.op, .int .i64 t.val, .slice A t.args.length a], .agg #[.int .i64 u.op, .int .i64 u.val, .slice B u.args.length b]] := by
              intro t u A B a b ht hu
              obtain ⟨t1, t2, t3, _⟩ := ht
              obtain ⟨u1, u2, u3, _⟩ := hu
              apply Array.ext'
              match hl : vals.toList, hargs with
              | [x, y], hv =>
                obtain ⟨⟨cs, rfl, hcs⟩, ⟨ds, rfl, hds⟩, _⟩ := hv
                have e1 : cs = #[.int .i64 t.op, .int .i64 t.val, .slice A t.args.length a] := by
                  apply Array.ext'
                  match hl : cs.toList, hcs with
                  | [x, y, z], hv =>
                    have e1 : x = VK W q ga row i := hv.1
                    have e2 : y = VK W q ga row (i + 1) := hv.2.1
                    have e3 : z = VK W q ga row (i + 2) := hv.2.2.1
                    rw [e1, e2, e3, low (by omega), low (by omega), low (by omega), p1, p2, p3, t1, t2, t3]
                have e2 : ds = #[.int .i64 u.op, .int .i64 u.val, .slice B u.args.length b] := by
                  apply Array.ext'
                  match hl : ds.toList, hds with
                  | [x, y, z], hv =>
                    have e1 : x = VK W q ga row j := hv.1
                    have e2 : y = VK W q ga row (j + 1) := hv.2.1
                    have e3 : z = VK W q ga row (j + 2) := hv.2.2.1
                    rw [e1, e2, e3, low (by omega), low (by omega), low (by omega), q1, q2, q3, u1, u2, u3]
                rw [e1, e2]
            by_cases hij : i = j
            · subst hij
              simp only [Nat.beq_refl, cond_true, Option.some.injEq] at he
              exact fin t t A A a a ht.2.2.2 ht.2.2.2 (arg t t A A a a ht ht) (by rw [equT_refl]; exact he.symm)
            · simp only [beq_no hij, cond_false] at he
              obtain ⟨t, A, a, u, B, b, ht, hu, hE⟩ := C.tq _ (findP_mem he)
              exact fin t u A B a b ht.2.2.2 hu.2.2.2 (arg t u A B a b ht hu) hE
        · cases hz : (isZ x && isZ y)
          · simp [hz] at he
          · simp only [hz, cond_true, Option.some.injEq] at he
            simp only [Bool.and_eq_true] at hz
            have zz : ∀ {x : List AC}, isZ x = true → x = zK := by
              intro x hx
              unfold isZ at hx
              split at hx
              · rfl
              · cases hx
            have e1 := zz hz.1
            have e2 := zz hz.2
            subst e1
            subst e2
            match hl : vals.toList, hargs with
            | [x, y], hv =>
              obtain ⟨⟨cs, rfl, hcs⟩, ⟨ds, rfl, hds⟩, _⟩ := hv
              have one : ∀ {cs : Array Value}, F2 (CR (VK W q ga row) ρ) zK cs.toList → cs = #[.int .i64 0, .int .i64 0, .slice none 0 0] := by
                intro cs hcs
                apply Array.ext'
                match hl : cs.toList, hcs with
                | [x, y, z], hv =>
                  have e1 : x = .int .i64 0 := hv.1
                  have e2 : y = .int .i64 0 := hv.2.1
                  obtain ⟨m, hm, _, e3⟩ := hv.2.2.1
                  have hm : m = 0 := hm
                  rw [e1, e2, e3, hm]
              rw [one hcs, one hds] at hl
              have hv2 : vals = #[.agg #[.int .i64 (Tm.mk 0 0 []).op, .int .i64 (Tm.mk 0 0 []).val, .slice none (Tm.mk 0 0 []).args.length 0], .agg #[.int .i64 (Tm.mk 0 0 []).op, .int .i64 (Tm.mk 0 0 []).val, .slice none (Tm.mk 0 0 []).args.length 0]] := by
                apply Array.ext'
                rw [hl]
                rfl
              have hT : TrS DK wK (.mk 0 0 []) none 0 := .leaf DK wK 0 0 none 0 (by unfold fits; omega) (by unfold fits; omega) (by unfold maxLen; omega)
              exact fin _ _ none none 0 0 hT hT hv2 (by rw [equT_refl]; exact he.symm)
      · cases h
  · cases h
theorem onlyE_okK {P : Program} {V : Nat → Value} {E E' : Env} {a : Nat → List AV → St → Option (AV × St)} (h : CallOKK DK wK P V a) (he : E'.ext = onlyE E a) (hf : E'.fn = E.fn) : ExtOKK DK wK P V E' := by
  have key : ∀ f args s v s', E'.ext f args s = some (v, s') → (∃ g, E.fn f = some g) ∧ a f args s = some (v, s') ∧ s.next ≤ s'.next ∧ s.ncap ≤ s'.ncap := by
    intro f args s v s' h
    rw [he] at h
    unfold onlyE at h
    split at h
    · cases h
    · rename_i g hg
      split at h
      · rename_i v1 s1 h1
        cases hk : (Nat.ble s.next s1.next && Nat.ble s.ncap s1.ncap)
        · simp [hk] at h
        · simp only [hk, cond_true, Option.some.injEq, Prod.mk.injEq] at h
          obtain ⟨rfl, rfl⟩ := h
          simp only [Bool.and_eq_true] at hk
          exact ⟨⟨g, hg⟩, h1, Nat.le_of_ble_eq_true hk.1, Nat.le_of_ble_eq_true hk.2⟩
      · cases h
  refine ⟨?_, ?_, ?_⟩
  · intro f args s v s' h0
    exact h f args s v s' (key f args s v s' h0).2.1
  · intro f args s v s' h0
    exact ⟨(key f args s v s' h0).2.2.1, (key f args s v s' h0).2.2.2⟩
  · intro f args s r h0
    rw [hf]
    exact (key f args s r.1 r.2 h0).1
theorem eK_ok (F : Fct W DK wK n) {c : Cl} (C : ClOK W DK wK n c) : EnvOK Try.prog (VK W q ga row) (eK c) ∧ ExtOKK DK wK Try.prog (VK W q ga row) (eK c) :=
  ⟨env_ok (fun op a b z h ρ x y hx hy => tabK_ok F C h ρ x y hx hy) (fun k i z h => (by cases h)) (vL_one (clo_one F.one) 0 0), onlyE_okK (kE_ok F C) rfl rfl⟩
theorem eN_ok {hl : Bool} (hL : LsOK hl q ga row) (h1 : ∀ i, (W i).oneCell' = true) : EnvOK Try.prog (VK W q ga row) (eN hl) ∧ ExtOKK DK wK Try.prog (VK W q ga row) (eN hl) :=
  ⟨env_ok (fun op a b z h => (by cases h)) (fun k i z h => (by cases h)) (vL_one (clo_one h1) 0 0), onlyE_okK (nextW_ok (i0 := 0) (i1 := 1) hL).k rfl rfl⟩
end
end Ab
end Go.Proofs.Ytddiclnkfhldlaa
namespace Go.Proofs.Ytddiclnkfhldlaa
namespace Ab
open Go.RowKit
set_option linter.unusedVariables false
set_option linter.unusedSimpArgs false
set_option maxRecDepth 100000
/-! ### The symbols anew -/
def ren (W : Nat → Value) (src : Nat → Nat) : Nat → Value := fun j => clo W (src j)
theorem srcK_hi {kept : List Nat} {nw k j : Nat} (h : 260 ≤ j) : srcK kept nw k j = j := by
  unfold srcK
  have e1 : Nat.beq j 20 = false := beq_no (by omega)
  have e2 : Nat.beq j 60 = false := beq_no (by omega)
  have e3 : Nat.blt j 260 = false := blt_no (by omega)
  rw [e1, e2, e3]
  simp
theorem srcK_ent {kept : List Nat} {nw k e j : Nat} (he : e < 8) (hj : j < 20) : srcK kept nw k (100 + 20 * e + j) = 100 + 20 * (kept.getD e e) + j := by
  unfold srcK
  have e1 : Nat.beq (100 + 20 * e + j) 20 = false := beq_no (by omega)
  have e2 : Nat.beq (100 + 20 * e + j) 60 = false := beq_no (by omega)
  have e3 : Nat.blt (100 + 20 * e + j) 260 = true := blt_yes (by omega)
  have e4 : Nat.ble 100 (100 + 20 * e + j) = true := Nat.ble_eq_true_of_le (by omega)
  rw [e1, e2, e3, e4]
  have d1 : (100 + 20 * e + j - 100) / 20 = e := by omega
  have d2 : (100 + 20 * e + j - 100) % 20 = j := by omega
  simp only [cond_false, cond_true, Bool.and_self, d1, d2]
theorem srcK_low {kept : List Nat} {nw k j : Nat} (h : j < 100) (h1 : j ≠ 20) (h2 : j ≠ 60) : srcK kept nw k j = j := by
  unfold srcK
  have e4 : Nat.ble 100 j = false := by
    cases hb : Nat.ble 100 j
    · rfl
    · have := Nat.le_of_ble_eq_true hb
      omega
  rw [beq_no h1, beq_no h2, e4]
  simp
theorem srcK_lt {kept : List Nat} {nw k j : Nat} (hk : ∀ e, e < 8 → kept.getD e e < 10) (hnw : nw < 900) (hkk : k < 900) (h : j < 900) : srcK kept nw k j < 900 := by
  by_cases h1 : j = 20
  · subst h1
    exact hnw
  · by_cases h2 : j = 60
    · subst h2
      exact hkk
    · by_cases h3 : j < 100
      · rw [srcK_low h3 h1 h2]
        omega
      · by_cases h4 : 260 ≤ j
        · rw [srcK_hi h4]
          omega
        · have e : j = 100 + 20 * ((j - 100) / 20) + (j - 100) % 20 := by omega
          rw [e, srcK_ent (by omega) (by omega)]
          have := hk ((j - 100) / 20) (by omega)
          omega
theorem clo_ent {W : Nat → Value} {m j : Nat} (hm : m < 10) (hj : j < 20) (h10 : j ≠ 10) : clo W (100 + 20 * m + j) = W (100 + 20 * m + j) := by
  unfold clo
  rw [if_neg (by omega), if_neg (by omega), if_neg (by omega)]
section
variable {W : Nat → Value} {DK : Nat → Prop} {wK : World} {n : Nat} {q : Ls} {ga : Nat} {row : Array Value}
theorem ren_ok {kept : List Nat} {nw k : Nat} (hk : ∀ e, e < 8 → kept.getD e e < 10) (hnw : nw < 900) (hkk : k < 900) {j : Nat} (hp : pK j = true) : VK (ren W (srcK kept nw k)) q ga row j = VK W q ga row (srcK kept nw k j) := by
  by_cases h : j < 900
  · show vL _ q ga row 0 0 j = vL _ q ga row 0 0 _
    rw [vL_low h, vL_low (srcK_lt hk hnw hkk h), clo_p hp]
    rfl
  · rw [srcK_hi (by omega)]
    show vL _ q ga row 0 0 j = vL _ q ga row 0 0 j
    unfold vL
    split
    · rfl
    · split
      · rfl
      · split
        · rfl
        · rw [clo_p hp]
          show clo W (srcK kept nw k j) = _
          rw [srcK_hi (by omega)]
theorem Ent.map {W' : Nat → Value} {b b' : Nat} (E : Ent W DK wK b) (h : ∀ j, j < 10 → W' (b' + j) = W (b + j)) : Ent W' DK wK b' where
  i0 := by
    have := h 0 (by omega)
    rw [Nat.add_zero, Nat.add_zero] at this
    rw [this]
    exact E.i0
  i1 := by
    rw [h 1 (by omega)]
    exact E.i1
  i2 := by
    rw [h 2 (by omega)]
    exact E.i2
  i9 := by
    rw [h 9 (by omega)]
    exact E.i9
  t3 := by
    obtain ⟨t, A, c, h1, h2, h3, h4⟩ := E.t3
    exact ⟨t, A, c, (h 3 (by omega)).trans h1, (h 4 (by omega)).trans h2, (h 5 (by omega)).trans h3, h4⟩
  t6 := by
    obtain ⟨t, A, c, h1, h2, h3, h4⟩ := E.t6
    exact ⟨t, A, c, (h 6 (by omega)).trans h1, (h 7 (by omega)).trans h2, (h 8 (by omega)).trans h3, h4⟩
theorem fct_ren (F : Fct W DK wK n) {kept : List Nat} {nw k n' : Nat} (hn : n ≤ 4) (hn' : n' ≤ 4) (hk : ∀ e, e < n' → kept.getD e e < n ∨ kept.getD e e = 9) (hnw : nw = 20 ∨ nw = 21) (hkk : k = 60 ∨ (k = 61 ∧ ∃ a, W 60 = .int .i64 a)) : Fct (ren W (srcK kept nw k)) DK wK n' where
  one := fun i => clo_one F.one _
  v1 := F.v1
  v2 := F.v2
  v20 := by
    show ∃ a, clo W nw = _
    obtain ⟨a, ha⟩ := F.v20
    rcases hnw with rfl | rfl
    · exact ⟨a, by rw [clo_p (j := 20) rfl, ha]⟩
    · exact ⟨_, (show clo W 21 = addv (W 20) 3 from rfl).trans (by rw [ha]; rfl)⟩
  v60 := by
    show ∃ a, clo W k = _
    obtain ⟨a, ha⟩ := F.v60
    rcases hkk with rfl | ⟨rfl, _⟩
    · exact ⟨a, by rw [clo_p (j := 60) rfl, ha]⟩
    · exact ⟨_, (show clo W 61 = addv (W 60) 1 from rfl).trans (by rw [ha]; rfl)⟩
  d0 := F.d0
  d1 := F.d1
  ents := fun e he => by
    have hm : kept.getD e e < 10 := by
      rcases hk e he with h | h <;> omega
    have E : Ent W DK wK (100 + 20 * (kept.getD e e)) := by
      rcases hk e he with h | h
      · exact F.ents _ h
      · rw [h]
        exact F.x
    refine E.map (fun j hj => ?_)
    show clo W (srcK kept nw k (100 + 20 * e + j)) = _
    rw [srcK_ent (by omega) (by omega), clo_ent hm (by omega) (by omega)]
  x := F.x.map (fun j hj => by
    show clo W (srcK kept nw k (280 + j)) = _
    rw [srcK_hi (by omega), show 280 + j = 100 + 20 * 9 + j by omega, clo_ent (by omega) (by omega) (by omega)])
theorem ren_60 {kept : List Nat} {nw : Nat} : ren W (srcK kept nw 60) 60 = W 60 := clo_p (j := 60) rfl
/-! ### Classes -/
def intOf : Value → Int
  | .int _ a => a
  | _ => 0
theorem zipP_at {off z : Nat} : ∀ {l : List Bool} {e : Nat} {x : Nat × Nat × Bool}, x ∈ zipP off z e l → ∃ k b, l[k]? = some b ∧ x = (off + 20 * (e + k), z, b)
  | b :: r, e, x, h => by
    simp only [zipP, List.mem_cons] at h
    rcases h with rfl | h
    · exact ⟨0, b, rfl, rfl⟩
    · obtain ⟨k, b', h1, h2⟩ := zipP_at h
      exact ⟨k + 1, b', by simpa using h1, by rw [h2, show e + 1 + k = e + (k + 1) by omega]⟩
theorem zipL_at {off : Nat} {z : Int} : ∀ {l : List Bool} {e : Nat} {x : Nat × Int × Bool}, x ∈ zipL off z e l → ∃ k b, l[k]? = some b ∧ x = (off + 20 * (e + k), z, b)
  | b :: r, e, x, h => by
    simp only [zipL, List.mem_cons] at h
    rcases h with rfl | h
    · exact ⟨0, b, rfl, rfl⟩
    · obtain ⟨k, b', h1, h2⟩ := zipL_at h
      exact ⟨k + 1, b', by simpa using h1, by rw [h2, show e + 1 + k = e + (k + 1) by omega]⟩
theorem zipT_at : ∀ {l : List (Bool × Bool)} {e : Nat} {x : Nat × Nat × Bool}, x ∈ zipT e l → ∃ k b, l[k]? = some (true, b) ∧ x = (103 + 20 * (e + k), 283, b)
  | (true, b) :: r, e, x, h => by
    simp only [zipT, List.mem_cons] at h
    rcases h with rfl | h
    · exact ⟨0, b, rfl, rfl⟩
    · obtain ⟨k, b', h1, h2⟩ := zipT_at h
      exact ⟨k + 1, b', by simpa using h1, by rw [h2, show e + 1 + k = e + (k + 1) by omega]⟩
  | (false, b) :: r, e, x, h => by
    simp only [zipT] at h
    obtain ⟨k, b', h1, h2⟩ := zipT_at h
    exact ⟨k + 1, b', by simpa using h1, by rw [h2, show e + 1 + k = e + (k + 1) by omega]⟩
theorem cutB_at : ∀ {l : List Bool} {k : Nat} {b : Bool}, (cutB l)[k]? = some b → l[k]? = some b
  | [], k, b, h => by simp [cutB] at h
  | true :: r, 0, b, h => h
  | true :: r, k + 1, b, h => by simp [cutB] at h
  | false :: r, 0, b, h => h
  | false :: r, k + 1, b, h => by
    have h : (cutB r)[k]? = some b := by simpa [cutB] using h
    simpa using cutB_at h
theorem cutP_at : ∀ {l : List (Bool × Bool)} {k : Nat} {b c : Bool}, (cutP l)[k]? = some (b, c) → ∃ d, l[k]? = some (b, d) ∧ (b = true → d = c)
  | [], k, b, c, h => by simp [cutP] at h
  | (true, true) :: r, 0, b, c, h => by
    have h : some (true, true) = some (b, c) := h
    injection h with h
    injection h with h1 h2
    subst h1
    subst h2
    exact ⟨true, rfl, fun _ => rfl⟩
  | (true, true) :: r, k + 1, b, c, h => by simp [cutP] at h
  | (true, false) :: r, 0, b, c, h => by
    have h : some (true, false) = some (b, c) := h
    injection h with h
    injection h with h1 h2
    subst h1
    subst h2
    exact ⟨false, rfl, fun _ => rfl⟩
  | (true, false) :: r, k + 1, b, c, h => by
    have h : (cutP r)[k]? = some (b, c) := by simpa [cutP] using h
    simpa using cutP_at h
  | (false, d) :: r, 0, b, c, h => by
    have h : some (false, false) = some (b, c) := h
    injection h with h
    injection h with h1 h2
    subst h1
    subst h2
    exact ⟨d, rfl, fun e => by cases e⟩
  | (false, d) :: r, k + 1, b, c, h => by
    have h : (cutP r)[k]? = some (b, c) := by simpa [cutP] using h
    simpa using cutP_at h
theorem cutB_mem : ∀ l : List Bool, cutB l ∈ allCut l.length
  | [] => by simp [cutB, allCut]
  | true :: r => by simp [cutB, allCut]
  | false :: r => by
    have := cutB_mem r
    simp only [cutB, List.length_cons, allCut, List.mem_cons, List.mem_map]
    exact .inr ⟨_, this, rfl⟩
theorem allB_mem : ∀ l : List Bool, l ∈ allB l.length
  | [] => by simp [allB]
  | true :: r => by
    have := allB_mem r
    simp only [List.length_cons, allB, List.mem_append, List.mem_map]
    exact .inl ⟨_, this, rfl⟩
  | false :: r => by
    have := allB_mem r
    simp only [List.length_cons, allB, List.mem_append, List.mem_map]
    exact .inr ⟨_, this, rfl⟩
theorem cutP_mem : ∀ l : List (Bool × Bool), cutP l ∈ allP l.length
  | [] => by simp [cutP, allP]
  | (true, true) :: r => by simp [cutP, allP]
  | (true, false) :: r => by
    have := cutP_mem r
    simp only [cutP, List.length_cons, allP, List.mem_cons, List.mem_append, List.mem_map]
    exact .inr (.inl ⟨_, this, rfl⟩)
  | (false, d) :: r => by
    have := cutP_mem r
    simp only [cutP, List.length_cons, allP, List.mem_cons, List.mem_append, List.mem_map]
    exact .inr (.inr ⟨_, this, rfl⟩)
def bitsP (W : Nat → Value) (off z n : Nat) : List Bool := (List.range n).map fun e => decide (intOf (clo W (off + 20 * e)) = intOf (clo W z))
def bitsL (W : Nat → Value) (n : Nat) : List Bool := (List.range n).map fun e => decide (intOf (clo W (110 + 20 * e)) < 10)
theorem map_at {α : Type} {f : Nat → α} {n k : Nat} {b : α} (h : ((List.range n).map f)[k]? = some b) : k < n ∧ b = f k := by
  by_cases hk : k < n
  · rw [List.getElem?_map, List.getElem?_range hk] at h
    simp only [Option.map_some, Option.some.injEq] at h
    exact ⟨hk, h.symm⟩
  · rw [List.getElem?_eq_none (by simp; omega)] at h
    cases h
/-- A number of an entry. -/
theorem ent_int (F : Fct W DK wK n) (hn : n ≤ 4) {k j : Nat} (hk : k < n ∨ k = 9) (hj : j = 0 ∨ j = 1 ∨ j = 2 ∨ j = 9) : 100 + 20 * k + j < 900 ∧ ∃ a, clo W (100 + 20 * k + j) = .int .i64 a := by
  have E : Ent W DK wK (100 + 20 * k) := by
    rcases hk with h | h
    · exact F.ents k h
    · rw [h]
      exact F.x
  refine ⟨by omega, ?_⟩
  rw [clo_ent (by omega) (by omega) (by omega)]
  rcases hj with rfl | rfl | rfl | rfl
  · exact E.i0
  · exact E.i1
  · exact E.i2
  · exact E.i9
theorem pq_ok (F : Fct W DK wK n) (hn : n ≤ 4) {off z : Nat} (ho : off = 100 ∨ off = 102) (hz : z < 900 ∧ ∃ a, clo W z = .int .i64 a) {l : List Bool} (hl : ∀ k b, l[k]? = some b → k < n ∧ b = decide (intOf (clo W (off + 20 * k)) = intOf (clo W z))) : ∀ x ∈ zipP off z 0 l, ∃ a b, x.1 < 900 ∧ x.2.1 < 900 ∧ clo W x.1 = .int .i64 a ∧ clo W x.2.1 = .int .i64 b ∧ x.2.2 = decide (a = b) := by
  intro x hx
  obtain ⟨k, b, h1, rfl⟩ := zipP_at hx
  obtain ⟨h2, h3⟩ := hl k b h1
  obtain ⟨z1, b', hb'⟩ := hz
  rw [Nat.zero_add]
  have key : off + 20 * k < 900 ∧ ∃ a, clo W (off + 20 * k) = .int .i64 a := by
    rcases ho with rfl | rfl
    · exact ent_int F hn (j := 0) (.inl h2) (.inl rfl)
    · have := ent_int F hn (j := 2) (.inl h2) (.inr (.inr (.inl rfl)))
      rw [show 102 + 20 * k = 100 + 20 * k + 2 by omega]
      exact this
  obtain ⟨k1, a, ha⟩ := key
  exact ⟨a, b', k1, z1, ha, hb', by rw [h3, ha, hb']; rfl⟩
theorem cl_rm (F : Fct W DK wK n) (hn : n ≤ 4) : ClOK W DK wK n (clRm n (cutB (bitsP W 100 280 n))) where
  nn := rfl
  pq := pq_ok F hn (.inl rfl) (ent_int F hn (k := 9) (j := 0) (.inr rfl) (.inl rfl)) (fun k b h => map_at (cutB_at h))
  lt := fun x hx => by cases hx
  tq := fun x hx => by cases hx
theorem cl_at (F : Fct W DK wK n) (hn : n ≤ 4) : ClOK W DK wK n (clAt n (cutB (bitsP W 100 1 n)) (cutB (bitsP W 100 280 n))) where
  nn := rfl
  pq := fun x hx => by
    rcases List.mem_append.1 hx with h | h
    · refine pq_ok F hn (.inl rfl) ⟨by omega, ?_⟩ (fun k b h => map_at (cutB_at h)) x h
      obtain ⟨a, ha⟩ := F.v1
      exact ⟨a, by rw [clo_p (j := 1) rfl, ha]⟩
    · exact pq_ok F hn (.inl rfl) (ent_int F hn (k := 9) (j := 0) (.inr rfl) (.inl rfl)) (fun k b h => map_at (cutB_at h)) x h
  lt := fun x hx => by cases hx
  tq := fun x hx => by cases hx
theorem cl_no : ClOK W DK wK n (clNo n) := ⟨rfl, fun x hx => (by cases hx), fun x hx => (by cases hx), fun x hx => (by cases hx)⟩
theorem cl_k {k : Int} (h : W 60 = .int .i64 k) {b : Bool} (hb : b = decide (k < 12)) : ClOK W DK wK n (clK n b) where
  nn := rfl
  pq := fun x hx => by cases hx
  lt := fun x hx => by
    rw [List.mem_singleton.1 hx]
    exact ⟨k, by show 60 < 900; omega, by rw [← h]; exact clo_p (j := 60) rfl, hb⟩
  tq := fun x hx => by cases hx
theorem cl_old (F : Fct W DK wK n) (hn : n ≤ 4) : ClOK W DK wK n (clOld n (bitsL W n)) where
  nn := rfl
  pq := fun x hx => by cases hx
  lt := fun x hx => by
    obtain ⟨k, b, h1, rfl⟩ := zipL_at hx
    obtain ⟨h2, h3⟩ := map_at h1
    rw [Nat.zero_add]
    have e : clo W (110 + 20 * k) = subv (addv (W 20) 3) (W (109 + 20 * k)) := by
      unfold clo
      rw [if_neg (by omega), if_neg (by omega), if_pos (by omega), show 110 + 20 * k - 1 = 109 + 20 * k by omega]
    obtain ⟨a, ha⟩ := F.v20
    obtain ⟨b', hb'⟩ := (F.ents k h2).i9
    rw [show 100 + 20 * k + 9 = 109 + 20 * k by omega] at hb'
    have e2 : clo W (110 + 20 * k) = .int .i64 (IntKind.wrap .i64 (IntKind.wrap .i64 (a + 3) - b')) := by
      rw [e, ha, hb']
      rfl
    exact ⟨_, by show 110 + 20 * k < 900; omega, e2, by show b = _; rw [h3, e2]; rfl⟩
  tq := fun x hx => by cases hx
open Classical in
noncomputable def tmv (W : Nat → Value) (DK : Nat → Prop) (wK : World) (i : Nat) : Tm := if h : ∃ t A c, TmAt W DK wK i t A c then h.choose else .mk 0 0 []
theorem tmv_ok {i : Nat} (h : ∃ t A c, TmAt W DK wK i t A c) : ∃ A c, TmAt W DK wK i (tmv W DK wK i) A c := by
  unfold tmv
  rw [dif_pos h]
  exact h.choose_spec
noncomputable def bitsK (W : Nat → Value) (DK : Nat → Prop) (wK : World) (z n : Nat) : List (Bool × Bool) := (List.range n).map fun e => (decide (intOf (clo W (102 + 20 * e)) = intOf (clo W z)), equT (tmv W DK wK (103 + 20 * e)) (tmv W DK wK 283))
theorem cl_kn (F : Fct W DK wK n) (hn : n ≤ 4) {z : Nat} (hz : z = 2 ∨ z = 282) : ClOK W DK wK n (clKn n z (cutP (bitsK W DK wK z n))) where
  nn := rfl
  pq := by
    refine pq_ok F hn (.inr rfl) ?_ (fun k b h => ?_)
    · rcases hz with rfl | rfl
      · obtain ⟨a, ha⟩ := F.v2
        exact ⟨by omega, a, by rw [clo_p (j := 2) rfl, ha]⟩
      · exact ent_int F hn (k := 9) (j := 2) (.inr rfl) (.inr (.inr (.inl rfl)))
    · rw [List.getElem?_map, Option.map_eq_some_iff] at h
      obtain ⟨⟨b', c'⟩, h1, rfl⟩ := h
      obtain ⟨d, h2, _⟩ := cutP_at h1
      obtain ⟨h3, h4⟩ := map_at h2
      injection h4 with h4 h5
      exact ⟨h3, h4⟩
  lt := fun x hx => by cases hx
  tq := fun x hx => by
    obtain ⟨k, b, h1, rfl⟩ := zipT_at hx
    obtain ⟨d, h2, h2'⟩ := cutP_at h1
    have hd := h2' rfl
    subst hd
    obtain ⟨h3, h4⟩ := map_at h2
    injection h4 with h4 h5
    rw [Nat.zero_add]
    obtain ⟨A, a, ht⟩ := tmv_ok (W := W) (DK := DK) (wK := wK) (i := 103 + 20 * k) (by
      have := (F.ents k h3).t3
      rw [show 100 + 20 * k + 3 = 103 + 20 * k by omega] at this
      exact this)
    obtain ⟨B, b, hu⟩ := tmv_ok (W := W) (DK := DK) (wK := wK) (i := 283) F.x.t3
    exact ⟨_, A, a, _, B, b, ht, hu, h5⟩
end
end Ab
end Go.Proofs.Ytddiclnkfhldlaa
namespace Go.Proofs.Ytddiclnkfhldlaa
namespace Ab
open Go.RowKit
set_option linter.unusedVariables false
set_option linter.unusedSimpArgs false
set_option maxRecDepth 100000
def isHd (h : Hd) : Bool := Nat.ble h.n 4 && ((h.vg && h.vh) || (Nat.beq h.n 0 && !h.vh))
theorem isHd_ok : ∀ {h : Hd}, isHd h = true → h ∈ allHd
  | ⟨n, vg, vh⟩, h => by
    unfold isHd at h
    simp only [Bool.and_eq_true, Bool.or_eq_true, Bool.not_eq_true'] at h
    obtain ⟨h1, h2⟩ := h
    have h1 := Nat.le_of_ble_eq_true h1
    simp only [allHd, List.mem_cons, List.not_mem_nil, or_false, Hd.mk.injEq]
    rcases h2 with ⟨rfl, rfl⟩ | ⟨h2, rfl⟩
    · have : n = 0 ∨ n = 1 ∨ n = 2 ∨ n = 3 ∨ n = 4 := by omega
      rcases this with rfl | rfl | rfl | rfl | rfl <;> simp
    · have h2 := Nat.eq_of_beq_eq_true h2
      subst h2
      cases vg <;> simp
theorem hd_le {h : Hd} (hh : h ∈ allHd) : h.n ≤ 4 := by
  simp only [allHd, List.mem_cons, List.not_mem_nil, or_false] at hh
  rcases hh with rfl | rfl | rfl | rfl | rfl | rfl | rfl <;> decide
def keptOK (n n' : Nat) (kept : List Nat) : Bool := (List.range n').all (fun e => Nat.blt (kept.getD e e) n || Nat.beq (kept.getD e e) 9) && (List.range 8).all (fun e => Nat.blt (kept.getD e e) 10)
theorem keptOK_ok {n n' : Nat} {kept : List Nat} (h : keptOK n n' kept = true) : (∀ e, e < n' → kept.getD e e < n ∨ kept.getD e e = 9) ∧ ∀ e, e < 8 → kept.getD e e < 10 := by
  unfold keptOK at h
  simp only [Bool.and_eq_true] at h
  obtain ⟨h1, h2⟩ := h
  refine ⟨fun e he => ?_, fun e he => ?_⟩
  · have := List.all_eq_true.1 h1 e (List.mem_range.2 he)
    simp only [Bool.or_eq_true] at this
    rcases this with h | h
    · exact .inl (Nat.le_of_ble_eq_true h)
    · exact .inr (Nat.eq_of_beq_eq_true h)
  · exact Nat.le_of_ble_eq_true (List.all_eq_true.1 h2 e (List.mem_range.2 he))
theorem fact_rm : (allHd.all fun h => (allCut h.n).all fun l => isHd (hdRm h l) && keptOK h.n (hdRm h l).n (keptRm 0 h.n l)) = true := by kernel_rfl
theorem fact_old : (allHd.all fun h => (allB h.n).all fun l => isHd (hdOld h l) && keptOK h.n (hdOld h l).n (keptOld 0 l)) = true := by kernel_rfl
theorem fact_add : (allHd.all fun h => isHd (hdAdd h) && keptOK h.n (hdAdd h).n (keptAdd h.n)) = true := by kernel_rfl
theorem fact_id : (allHd.all fun h => keptOK h.n h.n []) = true := by kernel_rfl
section
variable {W : Nat → Value} {DK : Nat → Prop} {wK : World} {n : Nat} {q : Ls} {ga : Nat} {row : Array Value} {base : Nat} {w0 : World} {hl : Bool}
/-- A piece of a list of code, its end told anew. -/
theorem norm_ok {V V' : Nat → Value} {E : Env} (hE : EnvOK Try.prog V E ∧ ExtOKK DK wK Try.prog V E) {T : Sl → St → Tell} (hV : ∀ t s j, (T t s).p j = true → V' j = V ((T t s).src j)) (hLt : ∀ t s j b, (T t s).lit j = some b → V' j = .int .i64 b) {l r : List Code} {u t : Sl} {ru s : St} (h : okNorm T u ru (codeAL E l t s) = true) {a : Act} {w : World} (hh : HereK DK wK V base w0 t s a w)
    {Q : Exit → Act → World → Prop} (hQ : ∀ a' w', HereK DK wK V' base w0 u ru a' w' → wpL Try.prog Q r a' w') : wpL Try.prog Q (l ++ r) a w := by
  unfold okNorm at h
  split at h
  · rename_i t1 s1 h1
    exact codeALK_ok hE.1 hE.2 l h1 hh (fun a' w' h' => hQ a' w' (hereK_tell hE.1.one (hV t1 s1) (hLt t1 s1) h h'))
  · cases h
/-- A piece with the table of a class. -/
theorem piece (F : Fct W DK wK n) {c : Cl} (C : ClOK W DK wK n c) {kept : List Nat} {nw k : Nat} (hk : ∀ e, e < 8 → kept.getD e e < 10) (hnw : nw < 900) (hkk : k < 900) {x : Bool} {more : Sl → St → List (Nat × Nat)} {l r : List Code} {u t : Sl} {ru s : St} (h : okNorm (fun t s => mkTell t s x (more t s) (srcK kept nw k)) u ru (codeAL (eK c) l t s) = true) {a : Act} {w : World} (hh : HereK DK wK (VK W q ga row) base w0 t s a w)
    {Q : Exit → Act → World → Prop} (hQ : ∀ a' w', HereK DK wK (VK (ren W (srcK kept nw k)) q ga row) base w0 u ru a' w' → wpL Try.prog Q r a' w') : wpL Try.prog Q (l ++ r) a w :=
  norm_ok (V' := VK (ren W (srcK kept nw k)) q ga row) (eK_ok F C) (fun t s j hp => ren_ok hk hnw hkk hp) (fun t s j b hb => (by cases hb)) h hh hQ
theorem idOK {h : Hd} (hh : h ∈ allHd) : (∀ e, e < h.n → ([] : List Nat).getD e e < h.n ∨ ([] : List Nat).getD e e = 9) ∧ ∀ e, e < 8 → ([] : List Nat).getD e e < 10 := keptOK_ok (List.all_eq_true.1 fact_id h hh)
/-- What is done with the tables. -/
theorem b_ok {h : Hd} (hh : h ∈ allHd) (R : RunsOK hl h) (F : Fct W DK wK h.n) {x : Nat} (hx : x < 6) {r : List Code} {Q : Exit → Act → World → Prop} {a : Act} {w : World} (hs : HereK DK wK (VK W q ga row) base w0 (lset tKa 46 (.one (.c (.int .i64 x)))) (sKa hl h) a w)
    (hQ : ∀ W' h', h' ∈ allHd → Fct W' DK wK h'.n → W' 60 = W 60 → ∀ a' w', HereK DK wK (VK W' q ga row) base w0 tK1 (sK1 hl h') a' w' → wpL Try.prog Q r a' w') : wpL Try.prog Q (ckP.b ++ r) a w := by
  have hn := hd_le hh
  have one : ∀ {c : Cl} {h' : Hd} {kept : List Nat} {nw : Nat}, ClOK W DK wK h.n c → (nw = 20 ∨ nw = 21) → runB eK ckP hl h h' x c kept nw = true → (isHd h' && keptOK h.n h'.n kept) = true → wpL Try.prog Q (ckP.b ++ r) a w := by
    intro c h' kept nw C hnw hr hf
    simp only [Bool.and_eq_true] at hf
    obtain ⟨k1, k2⟩ := keptOK_ok hf.2
    have hh' := isHd_ok hf.1
    exact piece F C k2 (by omega) (by omega) hr hs (fun a' w' h3 => hQ _ h' hh' (fct_ren F hn (hd_le hh') k1 hnw (.inl rfl)) ren_60 a' w' h3)
  have add : runAdd eK ckP hl h x = true → wpL Try.prog Q (ckP.b ++ r) a w := fun hr => one cl_no (.inl rfl) hr (List.all_eq_true.1 fact_add h hh)
  rcases (by omega : x = 0 ∨ x = 1 ∨ x = 2 ∨ x = 3 ∨ x = 4 ∨ x = 5) with rfl | rfl | rfl | rfl | rfl | rfl
  · have hm := cutB_mem (bitsP W 100 280 h.n)
    rw [show (bitsP W 100 280 h.n).length = h.n by simp [bitsP]] at hm
    exact one (cl_rm F hn) (.inl rfl) (List.all_eq_true.1 R.rm_ _ hm) (List.all_eq_true.1 (List.all_eq_true.1 fact_rm h hh) _ hm)
  · have hm := allB_mem (bitsL W h.n)
    rw [show (bitsL W h.n).length = h.n by simp [bitsL]] at hm
    exact one (cl_old F hn) (.inr rfl) (List.all_eq_true.1 R.old_ _ hm) (List.all_eq_true.1 (List.all_eq_true.1 fact_old h hh) _ hm)
  · exact add R.ad2_
  · exact add R.ad3_
  · exact add R.ad4_
  · exact add R.ad5_
theorem fct_id (F : Fct W DK wK n) (hn : n ≤ 4) : Fct (ren W (srcK [] 20 60)) DK wK n := fct_ren F hn hn (fun e he => .inl (by simpa using he)) (.inl rfl) (.inl rfl)
theorem id10 : ∀ e, e < 8 → ([] : List Nat).getD e e < 10 := fun e he => by simpa using (by omega : e < 10)
theorem a_ok {h : Hd} (R : RunsOK hl h) (hL : LsOK hl q ga row) (hone : ∀ i, (W i).oneCell' = true) {r : List Code} {Q : Exit → Act → World → Prop} {a : Act} {w : World} (hs : HereK DK wK (VK W q ga row) base w0 tK1 (sK1 hl h) a w)
    (hQ : ∀ x, x < 6 → ∀ a' w', HereK DK wK (VK (ren W (srcK [] 20 60)) q ga row) base w0 (lset tKa 46 (.one (.c (.int .i64 (x : Nat))))) (sKa hl h) a' w' → wpL Try.prog Q r a' w') : wpL Try.prog Q (ckP.a ++ r) a w := by
  refine norm_ok (V' := VK (ren W (srcK [] 20 60)) q ga row) (eN_ok hL hone) (fun t s j hp => ren_ok id10 (by omega) (by omega) hp) (fun t s j b hb => (by cases hb)) R.a_ hs (fun a' w' h' => ?_)
  obtain ⟨x, hx, h2⟩ := hereK_rng (m := 6) (d := 46) (by kernel_rfl) h'
  exact hQ x hx a' w' h2
theorem at_ok {h : Hd} (hh : h ∈ allHd) (R : RunsOK hl h) (F : Fct W DK wK h.n) {r : List Code} {Q : Exit → Act → World → Prop} {a : Act} {w : World} (hs : HereK DK wK (VK W q ga row) base w0 tK1 (sK1 hl h) a w)
    (hQ : ∀ a' w', HereK DK wK (VK (ren W (srcK [] 20 60)) q ga row) base w0 tK1 (sK1 hl h) a' w' → wpL Try.prog Q r a' w') : wpL Try.prog Q (ckP.at_ ++ r) a w := by
  have hm1 := cutB_mem (bitsP W 100 1 h.n)
  rw [show (bitsP W 100 1 h.n).length = h.n by simp [bitsP]] at hm1
  have hm2 := cutB_mem (bitsP W 100 280 h.n)
  rw [show (bitsP W 100 280 h.n).length = h.n by simp [bitsP]] at hm2
  exact piece F (cl_at F (hd_le hh)) id10 (by omega) (by omega) (List.all_eq_true.1 (List.all_eq_true.1 R.at_ _ hm1) _ hm2) hs hQ
theorem r30_ok {h : Hd} (R : RunsOK hl h) (F : Fct W DK wK h.n) {r : List Code} {Q : Exit → Act → World → Prop} {a : Act} {w : World} (hs : HereK DK wK (VK W q ga row) base w0 tK1 (sK1 hl h) a w)
    (hQ : ∀ a' w', HereK DK wK (VK (ren W (srcK [] 20 60)) q ga row) base w0 (tK4 0) (sK4 hl h) a' w' → wpL Try.prog Q r a' w') : wpL Try.prog Q (ckP.r30 ++ r) a w :=
  piece (more := fun t s => [(7, idAt t 127)]) F cl_no id10 (by omega) (by omega) R.r30_ hs hQ
theorem turn_ok {h : Hd} (hh : h ∈ allHd) (F : Fct W DK wK h.n) {i z : Nat} (hz : z = 2 ∨ z = 282) (hiz : (bif Nat.beq i 0 then 2 else 282) = z) (hr : runTurn eK ckP hl h i = true) {r : List Code} {Q : Exit → Act → World → Prop} {a : Act} {w : World} (hs : HereK DK wK (VK W q ga row) base w0 (tK4 i) (sK4 hl h) a w)
    (hQ : ∀ a' w', HereK DK wK (VK (ren W (srcK [] 20 60)) q ga row) base w0 (tK4 (i + 1)) (sK4 hl h) a' w' → wpL Try.prog Q r a' w') : wpL Try.prog Q (ckP.turn ++ r) a w := by
  unfold runTurn at hr
  rw [hiz] at hr
  have hm := cutP_mem (bitsK W DK wK z h.n)
  rw [show (bitsK W DK wK z h.n).length = h.n by simp [bitsK]] at hm
  exact piece (more := fun t s => [(7, idAt t 127)]) F (cl_kn F (hd_le hh) hz) id10 (by omega) (by omega) (List.all_eq_true.1 hr _ hm) hs hQ
theorem inc_ok {h : Hd} (R : RunsOK hl h) (F : Fct W DK wK h.n) {r : List Code} {Q : Exit → Act → World → Prop} {a : Act} {w : World} (hs : HereK DK wK (VK W q ga row) base w0 tK0 (sK0 hl h) a w)
    (hQ : ∀ a' w', HereK DK wK (VK (ren W (srcK [] 20 61)) q ga row) base w0 tK0 (sK0 hl h) a' w' → wpL Try.prog Q r a' w') : wpL Try.prog Q (ckP.inc ++ r) a w :=
  piece (more := fun t s => []) F cl_no id10 (by omega) (by omega) R.inc_ hs hQ
theorem hd_ok {h : Hd} (R : RunsOK hl h) (F : Fct W DK wK h.n) {k : Int} (h60 : W 60 = .int .i64 k) (hk : k < 12) {r : List Code} {Q : Exit → Act → World → Prop} {a : Act} {w : World} (hs : HereK DK wK (VK W q ga row) base w0 tK0 (sK0 hl h) a w)
    (hQ : ∀ a' w', HereK DK wK (VK (ren W (srcK [] 20 60)) q ga row) base w0 tK0 (sK0 hl h) a' w' → wpL Try.prog Q r a' w') : wpL Try.prog Q (ckP.head ++ r) a w :=
  piece (more := fun t s => []) F (cl_k h60 (b := true) (by simp [hk])) id10 (by omega) (by omega) R.hd_ hs hQ
/-- The turns over the addresses, to their end. -/
theorem end_ok {h : Hd} (R : RunsOK hl h) (F : Fct W DK wK h.n) {r : List Code} {Q : Exit → Act → World → Prop} {a : Act} {w : World} (hs : HereK DK wK (VK W q ga row) base w0 (tK4 2) (sK4 hl h) a w)
    (hQ : ∀ a' w', HereK DK wK (VK (ren W (srcK [] 20 60)) q ga row) base w0 tK0 (sK0 hl h) a' w' → Q (.exit 5) a' w') : wpL Try.prog Q (ckP.tst ++ r) a w := by
  have hr := R.en_
  have hE := eK_ok (q := q) (ga := ga) (row := row) F (cl_no (W := W) (DK := DK) (wK := wK) (n := h.n))
  unfold runEnd at hr
  split at hr
  · rename_i x y htst
    rw [htst]
    split at hr
    · rename_i t1 s1 h1
      split at hr
      · rename_i i t2 s2 h2
        simp only [Bool.and_eq_true] at hr
        obtain ⟨hi, hr⟩ := hr
        have hi := Nat.eq_of_beq_eq_true hi
        subst hi
        refine codeALK_ok hE.1 hE.2 [x] h1 hs (r := y :: r) (fun a1 w1 g1 => ?_)
        refine code_hereK hE.1 hE.2 30 1000 h2 g1 (fun a2 w2 g2 => ?_)
        exact hQ a2 w2 (hereK_tell (V' := VK (ren W (srcK [] 20 60)) q ga row) (T := mkTell t2 s2 false [] (srcK [] 20 60)) hE.1.one (fun j hp => ren_ok id10 (by omega) (by omega) hp) (fun j b hb => (by cases hb)) hr g2)
      · cases hr
    · cases hr
  · cases hr
end
end Ab
end Go.Proofs.Ytddiclnkfhldlaa
namespace Go.Proofs.Ytddiclnkfhldlaa
namespace Ab
open Go.RowKit
set_option linter.unusedVariables false
set_option linter.unusedSimpArgs false
set_option maxRecDepth 100000
noncomputable def r9Ops : Array Oper := opsOf [ckP.r9]
theorem r9_is : ckP.r9 = .region 9 r9Ops false := by kernel_rfl
theorem r9_size : r9Ops.size = 6 ∧ (r9Ops.toList.take 3).length = 3 ∧ (r9Ops.toList.drop 4).length = 2 := by
  refine ⟨?_, ?_, ?_⟩ <;> kernel_rfl
theorem half_fn : envZ.fn 17 = some Try.f17 := by kernel_rfl
def ckHf (hl : Bool) (o : Oper) (t : Sl) (s : St) : Bool :=
  match calleeOf o, o.dst with
  | some (f, l), some e => Nat.beq f 17 && (Nat.beq e 42 && ((match evals t l with | [.one (.c (.ptr (some (0, 0)))), .one (.c (.sym 20))] => true | _ => false) && (codesIn hl 0 1 s 900 && (rfreeT 280 291 t t.length && rfreeH 280 291 (codeOn s 0).heap))))
  | _, _ => false
def entV : AV := .one (.agg (entK 9))
noncomputable def run9 (hl : Bool) (h : Hd) : Bool :=
  match opsA (eK (clNo h.n)) (fnA (eK (clNo h.n)) 30) r9Ops (r9Ops.toList.take 3) tK0 (sK0 hl h) with
  | some (t1, s1) => (match r9Ops[3]? with
    | some o3 => ckHf hl o3 t1 s1 && (match opsA (eK (clNo h.n)) (fnA (eK (clNo h.n)) 30) r9Ops (r9Ops.toList.drop 4) (lset t1 42 entV) (codeOn s1 0) with
      | some (t2, s2) => retOK (mkTell t2 s2 true [] (srcK [] 20 60)) t2 s2 tK1 (sK1 hl h)
      | none => false)
    | none => false)
  | none => false
theorem run9_all : (allHd.all fun h => run9 true h && run9 false h) = true := by kernel_rfl
theorem ckHf_ok {hl : Bool} {o : Oper} {t : Sl} {s : St} (h : ckHf hl o t s = true) : ∃ l, calleeOf o = some (17, l) ∧ o.dst = some 42 ∧ evals t l = [.one (.c (.ptr (some (0, 0)))), .one (.c (.sym 20))] ∧ codesIn hl 0 1 s 900 = true ∧ rfreeT 280 291 t t.length = true ∧ rfreeH 280 291 (codeOn s 0).heap = true := by
  unfold ckHf at h
  split at h
  · rename_i f l e h1 h2
    simp only [Bool.and_eq_true] at h
    obtain ⟨k1, k2, k3, k4, k5, k6⟩ := h
    have k1 := Nat.eq_of_beq_eq_true k1
    subst k1
    have k2 := Nat.eq_of_beq_eq_true k2
    subst k2
    refine ⟨l, h1, h2, ?_, k4, k5, k6⟩
    split at k3
    · rename_i he
      exact he
    · cases k3
  · cases h
/-- The cells of what half yields. -/
def ten (cs : List Value) : List Value := [cs.getD 0 undef, cs.getD 1 undef, cs.getD 2 undef, cs.getD 3 undef, cs.getD 4 undef, cs.getD 5 undef, cs.getD 6 undef, cs.getD 7 undef, cs.getD 8 undef, cs.getD 24 undef]
section
variable {W : Nat → Value} {DK DK' : Nat → Prop} {wK wK' : World} {n : Nat} {q : Ls} {ga : Nat} {row : Array Value} {base : Nat} {w0 : World} {hl : Bool}
theorem clo_out {cs : List Value} (hcs : cs.length = 10) : ∀ i, (i < 280 ∨ 291 ≤ i) → VK W q ga row i = VK (withVs W 280 cs) q ga row i := by
  intro i hi
  have hout : ∀ j, (j < 280 ∨ 290 ≤ j) → withVs W 280 cs j = W j := fun j hj => (withVs_out j (by rw [hcs]; omega)).symm
  have e : clo W i = clo (withVs W 280 cs) i := by
    unfold clo
    rw [hout 20 (by omega), hout 60 (by omega)]
    split
    · rfl
    · split
      · rfl
      · split
        · rw [hout (i - 1) (by omega)]
        · rw [hout i (by omega)]
  show vL _ q ga row 0 0 i = vL _ q ga row 0 0 i
  unfold vL
  split
  · rfl
  · split
    · rfl
    · split
      · rfl
      · exact e
/-- What half yields, its cells symbols. -/
theorem ent_cells {ρ : Rho} {cs : List Value} (h : ∀ V ρ, F2 (CR V ρ) halfN cs) : F2 (CR (VK (withVs W 280 (ten cs)) q ga row) ρ) (entK 9) cs ∧ (∀ v ∈ ten cs, v.oneCell' = true) ∧ (∃ a, cs.getD 0 undef = .int .i64 a) ∧ (∃ a, cs.getD 1 undef = .int .i64 a) ∧ (∃ a, cs.getD 2 undef = .int .i64 a) ∧ (∃ a, cs.getD 24 undef = .int .i64 a) := by
  have hV := h (VK (withVs W 280 (ten cs)) q ga row) ρ
  have sy : ∀ j v, (ten cs)[j]? = some v → j < 10 → v = VK (withVs W 280 (ten cs)) q ga row (280 + j) := by
    intro j v hv hj
    have hc : clo (withVs W 280 (ten cs)) (280 + j) = withVs W 280 (ten cs) (280 + j) := by
      unfold clo
      rw [if_neg (by omega), if_neg (by omega), if_neg (by omega)]
    show v = vL _ q ga row 0 0 _
    rw [vL_low (by omega), hc, withVs_in hv]
  match cs, hV, sy with
  | [x0, x1, x2, x3, x4, x5, x6, x7, x8, y0, y1, y2, y3, y4, y5, y6, y7, y8, y9, y10, y11, y12, y13, y14, x9, z], hV, sy =>
    obtain ⟨⟨a0, _, _, h0⟩, ⟨a1, _, h1⟩, ⟨a2, _, _, h2⟩, h3, h4, h5, h6, h7, h8, g0, g1, g2, g3, g4, g5, g6, g7, g8, g9, g10, g11, g12, g13, g14, ⟨a9, h9⟩, hz, _⟩ := hV
    refine ⟨⟨sy 0 x0 rfl (by omega), sy 1 x1 rfl (by omega), sy 2 x2 rfl (by omega), sy 3 x3 rfl (by omega), sy 4 x4 rfl (by omega), sy 5 x5 rfl (by omega), sy 6 x6 rfl (by omega), sy 7 x7 rfl (by omega), sy 8 x8 rfl (by omega), g0, g1, g2, g3, g4, g5, g6, g7, g8, g9, g10, g11, g12, g13, g14, sy 9 x9 rfl (by omega), hz, trivial⟩, ?_, ⟨a0, h0⟩, ⟨_, h1⟩, ⟨a2, h2⟩, ⟨a9, h9⟩⟩
    intro v hv
    have hv : v ∈ [x0, x1, x2, x3, x4, x5, x6, x7, x8, x9] := hv
    simp only [List.mem_cons, List.not_mem_nil, or_false] at hv
    rcases hv with rfl | rfl | rfl | rfl | rfl | rfl | rfl | rfl | rfl | rfl
    · rw [h0]; rfl
    · rw [h1]; rfl
    · rw [h2]; rfl
    · exact h3
    · exact h4
    · exact h5
    · exact h6
    · exact h7
    · exact h8
    · rw [h9]; rfl
theorem Rfl.mono {f : Nat} {v : Value} (h : Rfl f v DK wK) (hs : ∀ b, DK b → DK' b ∧ wK'.heap[b]? = wK.heap[b]?) : Rfl f v DK' wK' := fun w2 h2 => h w2 (fun b hb => ⟨(h2 b (hs b hb).1).1, (h2 b (hs b hb).1).2.trans (hs b hb).2⟩)
theorem Ent.mono {b : Nat} (h : Ent W DK wK b) (hs : ∀ b, DK b → DK' b ∧ wK'.heap[b]? = wK.heap[b]?) : Ent W DK' wK' b where
  i0 := h.i0
  i1 := h.i1
  i2 := h.i2
  i9 := h.i9
  t3 := by
    obtain ⟨t, A, c, h1, h2, h3, h4⟩ := h.t3
    exact ⟨t, A, c, h1, h2, h3, (h4.keep (w' := wK') (fun b hb _ => (hs b hb).2)).mono (fun b hb => (hs b hb).1)⟩
  t6 := by
    obtain ⟨t, A, c, h1, h2, h3, h4⟩ := h.t6
    exact ⟨t, A, c, h1, h2, h3, (h4.keep (w' := wK') (fun b hb _ => (hs b hb).2)).mono (fun b hb => (hs b hb).1)⟩
theorem fct_new (F : Fct W DK wK n) (hn : n ≤ 4) (hs : ∀ b, DK b → DK' b ∧ wK'.heap[b]? = wK.heap[b]?) {W' : Nat → Value} (hW : ∀ j, j < 280 → W' j = W j) (one : ∀ i, (W' i).oneCell' = true) (x : Ent W' DK' wK' 280) : Fct W' DK' wK' n where
  one := one
  v1 := by
    rw [hW 1 (by omega)]
    exact F.v1
  v2 := by
    rw [hW 2 (by omega)]
    exact F.v2
  v20 := by
    rw [hW 20 (by omega)]
    exact F.v20
  v60 := by
    rw [hW 60 (by omega)]
    exact F.v60
  d0 := by
    rw [hW 30 (by omega)]
    exact F.d0.mono hs
  d1 := by
    rw [hW 31 (by omega)]
    exact F.d1.mono hs
  ents := fun e he => ((F.ents e he).mono hs).map (fun j hj => hW _ (by omega))
  x := x
theorem half_step (hL : LsOK hl q ga row) {h : Hd} (hh : h ∈ allHd) (F : Fct W DK wK h.n) {r : List Code} {Q : Exit → Act → World → Prop} {a : Act} {w : World} (hs : HereK DK wK (VK W q ga row) base w0 tK0 (sK0 hl h) a w)
    (hQ : ∀ W' DK' wK', Fct W' DK' wK' h.n → W' 60 = W 60 → ∀ a' w', HereK DK' wK' (VK W' q ga row) base w0 tK1 (sK1 hl h) a' w' → wpL Try.prog Q r a' w') : wpL Try.prog Q (ckP.r9 :: r) a w := by
  have hr9 : run9 hl h = true := by
    have := List.all_eq_true.1 run9_all h hh
    simp only [Bool.and_eq_true] at this
    cases hl
    · exact this.2
    · exact this.1
  have hn := hd_le hh
  obtain ⟨z1, z2, z3⟩ := r9_size
  rw [r9_is]
  show (Code.region 9 r9Ops false).wp Try.prog (Exit.then (wpL Try.prog Q r) Q) a w
  refine wp_region ?_
  rw [z1, List.range_eq_range']
  obtain ⟨ρ, ht, hr, h1, h2, h3, h4, h5, hk⟩ := hs
  unfold run9 at hr9
  split at hr9
  · rename_i t1 s1 r1
    split at hr9
    · rename_i o3 ho3
      simp only [Bool.and_eq_true] at hr9
      obtain ⟨ck, hr9⟩ := hr9
      split at hr9
      · rename_i t2 s2 r2
        obtain ⟨e1, e2⟩ := eK_ok (q := q) (ga := ga) (row := row) F (cl_no (W := W) (DK := DK) (wK := wK) (n := h.n))
        have c0 : Clean ρ (sK0 hl h) := ⟨h1, h2⟩
        have tk := ops_takeK e1 (fnA_okK e1 e2 30) (fnA_fn (E := eK (clNo h.n)) e2.fn 30) (fnA_up (E := eK (clNo h.n)) e2.up 30) (ops := r9Ops) (r9Ops.toList.take 3) 0 3 (fun i o ho => by have := sub_at (ops := r9Ops) (k := 0) (n := 3) i o (by simpa using ho); exact this) r1 ht hr (c0.free _) hk (Q := Exit.then (wpL Try.prog Q r) Q)
        rw [z2] at tk
        refine tk (fun ρ1 a1 w1 g1 ht1 hk1 => ?_)
        have c1 := c0.goes g1
        rw [show (0 + 3 : Nat) = 3 from rfl, show (3 : Nat) = 2 + 1 from rfl, List.range'_succ, wpOps_cons]
        obtain ⟨l3, q1, q2, q3, q4, q5, q6⟩ := ckHf_ok ck
        have hfn : (eK (clNo h.n)).fn 17 = some Try.f17 := half_fn
        refine wp_callee2 e1 hfn ho3 q1 ht1 (fun vals hv => ?_)
        rw [q3] at hv
        obtain ⟨d0, d1⟩ := codesIn_ok q4
        obtain ⟨g, p', hb, hC⟩ := rep_some hL g1.1 d0 d1
        obtain ⟨hrow, hne⟩ := row_ne hL g1.1 q4 hC
        obtain ⟨now, hnow⟩ := F.v20
        have hvals : vals = #[.pointer (some ⟨g, 0, none⟩), .int .i64 now] := by
          apply Array.ext'
          match hl : vals.toList, hv with
          | [x, y], hv =>
            obtain ⟨b', f0, f1⟩ := hv.1
            rw [hb] at f0
            injection f0 with f0
            subst f0
            have f2 : y = VK W q ga row 20 := hv.2.1
            rw [f1, f2, show VK W q ga row 20 = clo W 20 from vL_low (by omega), clo_p (j := 20) rfl, hnow]
        subst hvals
        refine (half_any hL hC hrow hne now).mono ?_
        rintro e w2 ⟨cs, rfl, hcs, hT3, hT6, ⟨p2, hC'⟩, hg, _⟩
        have hgo := go_codes (V := VK W q ga row) g1.1 d0 hb hg hC'.2.2.1 (pb_some hC'.1)
        have hk2 := hk1.ext hgo.2.1
        obtain ⟨x1, x2, ⟨i0, hi0⟩, ⟨i1, hi1⟩, ⟨i2, hi2⟩, ⟨i9, hi9⟩⟩ := ent_cells (W := W) (q := q) (ga := ga) (row := row) (ρ := ρ1) hcs
        have hlen : (ten cs.toList).length = 10 := rfl
        have hW' : ∀ i, (withVs W 280 (ten cs.toList) i).oneCell' = true := withVs_one F.one x2
        have inW : ∀ j v, (ten cs.toList)[j]? = some v → withVs W 280 (ten cs.toList) (280 + j) = v := fun j v hv => withVs_in hv
        -- the deep memory
        have hsub : ∀ b, DK b → (DK b ∨ (w1.heap.size ≤ b ∧ b < w2.heap.size)) ∧ w2.heap[b]? = wK.heap[b]? := fun b hb => ⟨.inl hb, hk2.eq b hb⟩
        have hx : Ent (withVs W 280 (ten cs.toList)) (fun b => DK b ∨ (w1.heap.size ≤ b ∧ b < w2.heap.size)) w2 280 := by
          have gt : ∀ {i : Nat} {v : Value}, cs.toList[i]? = some v → cs.toList.getD i undef = v := fun hv => by rw [List.getD_eq_getElem?_getD, hv]; rfl
          refine ⟨⟨i0, ?_⟩, ⟨i1, ?_⟩, ⟨i2, ?_⟩, ⟨i9, ?_⟩, ?_, ?_⟩
          · exact (inW 0 _ rfl).trans hi0
          · exact (inW 1 _ rfl).trans hi1
          · exact (inW 2 _ rfl).trans hi2
          · exact (inW 9 _ rfl).trans hi9
          · obtain ⟨t, A, c, f1, f2, f3, f4⟩ := hT3
            exact ⟨t, A, c, (inW 3 _ rfl).trans (gt f1), (inW 4 _ rfl).trans (gt f2), (inW 5 _ rfl).trans (gt f3), f4.mono (fun b hb => .inr hb)⟩
          · obtain ⟨t, A, c, f1, f2, f3, f4⟩ := hT6
            exact ⟨t, A, c, (inW 6 _ rfl).trans (gt f1), (inW 7 _ rfl).trans (gt f2), (inW 8 _ rfl).trans (gt f3), f4.mono (fun b hb => .inr hb)⟩
        have F' := fct_new F hn hsub (W' := withVs W 280 (ten cs.toList)) (fun j hj => (withVs_out j (.inl hj)).symm) hW' hx
        refine ⟨_, rfl, ?_⟩
        have hr2 : Rep (VK (withVs W 280 (ten cs.toList)) q ga row) ρ1 (codeOn s1 0) w2 := rep_raV (lo := 280) (hi := 291) (clo_out hlen) q6 hgo.1
        have ht2 : TR (VK (withVs W 280 (ten cs.toList)) q ga row) ρ1 (lset t1 42 entV) (a1.put o3.dst (.agg cs)) := by
          have ht' := tr_raV (lo := 280) (hi := 291) (clo_out (W := W) (q := q) (ga := ga) (row := row) hlen) q5 ht1
          rw [q2]
          exact tr_put ht' (d := some 42) (v := entV) ⟨cs, rfl, x1⟩
        have hk3 : KP (fun b => DK b ∨ (w1.heap.size ≤ b ∧ b < w2.heap.size)) w2 ρ1 w2 := by
          refine ⟨?_, fun b _ => rfl, ?_⟩
          · rintro b (hb' | hb')
            · exact hk2.lt b hb'
            · exact hb'.2
          · rintro b (hb' | hb') i e
            · exact hk2.no b hb' i e
            · have := g1.1.bnd i b e
              omega
        obtain ⟨e3, e4⟩ := eK_ok (q := q) (ga := ga) (row := row) F' (cl_no (W := withVs W 280 (ten cs.toList)) (n := h.n))
        have c2 := c1.goes hgo
        have tk2 := ops_takeK e3 (fnA_okK e3 e4 30) (fnA_fn (E := eK (clNo h.n)) e4.fn 30) (fnA_up (E := eK (clNo h.n)) e4.up 30) (ops := r9Ops) (r9Ops.toList.drop 4) 4 0 sub_at' r2 ht2 hr2 (c2.free _) hk3 (Q := Exit.then (wpL Try.prog Q r) Q)
        rw [z3] at tk2
        refine tk2 (fun ρ4 a4 w4 g4 ht4 hk4 => ?_)
        -- here
        have hs0 : HereK DK wK (VK W q ga row) base w0 t1 (codeOn s1 0) a1 w2 := hereK_goes hr h1 h2 h3 h4 h5 hk (g1.trans _ hgo) (ht1.mono _ hgo.2.2)
        obtain ⟨ρ', _, _, _, _, _, b1, b2, _⟩ := hs0
        have hbase : ∀ i b, ρ1.blk i = some b → base ≤ b := by
          have := hereK_goes hr h1 h2 h3 h4 h5 hk g1 ht1
          intro i b hb
          by_cases hi : i < (sK0 hl h).next ∨ s1.next ≤ i
          · rw [g1.2.1.blk i hi] at hb
            exact h3 i b hb
          · rcases g1.2.1.new i b (by omega) (by omega) hb with h | ⟨j, _, _, h⟩
            · omega
            · exact h3 j b h
        have hs4 := hereK_goes (base := base) (w0 := w0) hr2 c2.b c2.c hbase b1 b2 hk3 g4 ht4
        show wpL Try.prog Q r a4 w4
        refine hQ _ _ _ (fct_id F' hn) ?_ a4 w4 (hereK_tell (V' := VK (ren (withVs W 280 (ten cs.toList)) (srcK [] 20 60)) q ga row) (T := mkTell t2 s2 true [] (srcK [] 20 60)) e3.one (fun j hp => ren_ok id10 (by omega) (by omega) hp) (fun j b hb => (by cases hb)) hr9 hs4)
        rw [ren_60]
        exact (withVs_out 60 (.inl (by omega))).symm
      · cases hr9
    · cases hr9
  · cases hr9
end
end Ab
end Go.Proofs.Ytddiclnkfhldlaa
namespace Go.Proofs.Ytddiclnkfhldlaa
namespace Ab
open Go.RowKit
set_option linter.unusedVariables false
set_option linter.unusedSimpArgs false
set_option maxRecDepth 100000
noncomputable def ckB : Code := loopOf (nthC (lin ckC) 7)
noncomputable def ckBB : Code := blockOf (nthC (lin ckB) 2)
noncomputable def ckT : Code := loopOf (nthC (lin ckBB) 11)
noncomputable def ckTr : List Code := (lin ckT).drop 2
noncomputable def ckR4 : Code := nthC (lin ckC) 4
noncomputable def ck56 : List Code := ((lin ckC).drop 5).take 2
theorem ckB_lin : lin ckB = ckP.head ++ (.block 1 ckBB :: (ckP.inc ++ [])) := by kernel_rfl
theorem ckBB_lin : lin ckBB = ckP.r9 :: (ckP.a ++ (ckP.b ++ (ckP.at_ ++ (ckP.r30 ++ [.block 5 (.loop ckT)])))) := by kernel_rfl
theorem ckT_lin : lin ckT = ckP.turn ++ [] := by kernel_rfl
theorem ckT_lin2 : lin ckT = ckP.tst ++ ckTr := by kernel_rfl
theorem ck_rest : (lin ckC).drop 4 = ckR4 :: (ck56 ++ (.block 0 (.loop ckB) :: ckP.fin)) := by kernel_rfl
section
variable {W : Nat → Value} {DK : Nat → Prop} {wK : World} {n : Nat} {q : Ls} {ga : Nat} {row : Array Value} {base : Nat} {w0 : World} {hl : Bool}
theorem round_ok (hL : LsOK hl q ga row) {h : Hd} (hh : h ∈ allHd) (F : Fct W DK wK h.n) {k : Int} (h60 : W 60 = .int .i64 k) (hk0 : 0 ≤ k) (hk : k < 12) {Q : Exit → Act → World → Prop} {a : Act} {w : World} (hs : HereK DK wK (VK W q ga row) base w0 tK0 (sK0 hl h) a w)
    (hQ : ∀ W' DK' wK' h', h' ∈ allHd → Fct W' DK' wK' h'.n → W' 60 = .int .i64 (k + 1) → ∀ a' w', HereK DK' wK' (VK W' q ga row) base w0 tK0 (sK0 hl h') a' w' → Q .normal a' w') : ckB.wp Try.prog Q a w := by
  have hn := hd_le hh
  have R := runs_all hl h hh
  refine wp_of_lin ?_
  rw [ckB_lin]
  refine hd_ok R F h60 hk hs (fun a1 w1 s1 => ?_)
  show (Code.block 1 ckBB).wp Try.prog (Exit.then (wpL Try.prog Q (ckP.inc ++ [])) Q) a1 w1
  refine wp_block (wp_of_lin ?_)
  rw [ckBB_lin]
  refine half_step hL hh (fct_id F hn) s1 (fun W2 DK2 wK2 F2 e2 a2 w2 s2 => ?_)
  refine a_ok R hL F2.one s2 (fun x hx a3 w3 s3 => ?_)
  refine b_ok hh R (fct_id F2 hn) hx s3 (fun W4 h4 hh4 F4 e4 a4 w4 s4 => ?_)
  have hn4 := hd_le hh4
  have R4 := runs_all hl h4 hh4
  have F5 := fct_id F4 hn4
  have F6 := fct_id F5 hn4
  have F7 := fct_id F6 hn4
  have F8 := fct_id F7 hn4
  have F9 := fct_id F8 hn4
  refine at_ok hh4 R4 F4 s4 (fun a5 w5 s5 => ?_)
  refine r30_ok R4 F5 s5 (fun a6 w6 s6 => ?_)
  show (Code.block 5 (.loop ckT)).wp Try.prog _ a6 w6
  refine wp_block (wp_of_loop (loop_one (wp_of_lin ?_)))
  rw [ckT_lin]
  refine turn_ok hh4 F6 (i := 0) (z := 2) (.inl rfl) rfl R4.t0_ s6 (fun a7 w7 s7 => ?_)
  refine loop_one (wp_of_lin ?_)
  rw [ckT_lin]
  refine turn_ok hh4 F7 (i := 1) (z := 282) (.inr rfl) rfl R4.t1_ s7 (fun a8 w8 s8 => ?_)
  refine loop_one (wp_of_lin ?_)
  rw [ckT_lin2]
  refine end_ok R4 F8 s8 (fun a9 w9 s9 => ?_)
  show wpL Try.prog Q (ckP.inc ++ []) a9 w9
  refine inc_ok R4 F9 s9 (fun a10 w10 s10 => ?_)
  have v60 : W4 60 = .int .i64 k := by rw [e4, ren_60, e2, ren_60, h60]
  refine hQ _ DK2 wK2 h4 hh4 (fct_ren F9 hn4 hn4 (fun e he => .inl (by simpa using he)) (.inl rfl) (.inr ⟨rfl, F9.v60⟩)) ?_ a10 w10 s10
  show addv (ren _ _ 60) 1 = _
  rw [ren_60, ren_60, ren_60, ren_60, ren_60, v60]
  show Value.int .i64 (IntKind.wrap .i64 (k + 1)) = _
  have : IntKind.wrap .i64 (k + 1) = k + 1 := by
    rcases (by omega : k = 0 ∨ k = 1 ∨ k = 2 ∨ k = 3 ∨ k = 4 ∨ k = 5 ∨ k = 6 ∨ k = 7 ∨ k = 8 ∨ k = 9 ∨ k = 10 ∨ k = 11) with rfl | rfl | rfl | rfl | rfl | rfl | rfl | rfl | rfl | rfl | rfl | rfl <;> decide
  rw [this]
/-- Does what is left return true? -/
noncomputable def finOK (E : Env) (t : Sl) (s : St) : Bool := match ckP.fin with
  | [f, .ret] => (match codeAL E [f] t s with
    | some (t, s) => (match resultsA E t s ckRs with | some [.c (.bool true)] => true | _ => false)
    | none => false)
  | _ => false
theorem last_ok {h : Hd} (R : RunsOK hl h) (F : Fct W DK wK h.n) (h60 : W 60 = .int .i64 12) {Q : Exit → Act → World → Prop} {a : Act} {w : World} (hs : HereK DK wK (VK W q ga row) base w0 tK0 (sK0 hl h) a w)
    (hQ : ∀ c t s a' w', ClOK W DK wK h.n c → finOK (eK c) t s = true → HereK DK wK (VK W q ga row) base w0 t s a' w' → Q (.exit 0) a' w') : ckB.wp Try.prog Q a w := by
  have hr := R.fin_
  have C : ClOK W DK wK h.n (clK h.n false) := cl_k h60 rfl
  have hE := eK_ok (q := q) (ga := ga) (row := row) F C
  refine wp_of_lin ?_
  rw [ckB_lin]
  unfold runFin at hr
  split at hr
  · rename_i x y hhd
    rw [hhd]
    split at hr
    · rename_i t1 s1 h1
      split at hr
      · rename_i i t2 s2 h2
        simp only [Bool.and_eq_true] at hr
        obtain ⟨hi, hr⟩ := hr
        have hi := Nat.eq_of_beq_eq_true hi
        subst hi
        refine codeALK_ok hE.1 hE.2 [x] h1 hs (fun a1 w1 g1 => ?_)
        refine code_hereK hE.1 hE.2 30 1000 h2 g1 (fun a2 w2 g2 => ?_)
        exact hQ _ t2 s2 a2 w2 C hr g2
      · cases hr
    · cases hr
  · cases hr
theorem rounds_ok (hL : LsOK hl q ga row) {Q : Exit → Act → World → Prop} (hQ : ∀ W DK wK n c t s a' w', Fct W DK wK n → ClOK W DK wK n c → finOK (eK c) t s = true → HereK DK wK (VK W q ga row) base w0 t s a' w' → Q (.exit 0) a' w') : ∀ (d : Nat) (k : Int), 0 ≤ k → k + d = 12 → ∀ {W : Nat → Value} {DK : Nat → Prop} {wK : World} {h : Hd}, h ∈ allHd → Fct W DK wK h.n → W 60 = .int .i64 k → ∀ {a : Act} {w : World}, HereK DK wK (VK W q ga row) base w0 tK0 (sK0 hl h) a w → LoopWp Try.prog ckB Q a w
  | 0, k, hk0, hk, W, DK, wK, h, hh, F, h60, a, w, hs => by
    have : k = 12 := by omega
    subst this
    exact loop_one (last_ok (runs_all hl h hh) F h60 hs (fun c t s a' w' C hf h' => hQ W DK wK h.n c t s a' w' F C hf h'))
  | d + 1, k, hk0, hk, W, DK, wK, h, hh, F, h60, a, w, hs => by
    refine loop_one (round_ok hL hh F h60 hk0 (by omega) hs (fun W' DK' wK' h' hh' F' e' a' w' hs' => ?_))
    exact rounds_ok hL hQ d (k + 1) (by omega) (by omega) hh' F' e' hs'
end
end Ab
end Go.Proofs.Ytddiclnkfhldlaa
namespace Go.Proofs.Ytddiclnkfhldlaa
namespace Ab
open Go.RowKit
set_option linter.unusedVariables false
set_option linter.unusedSimpArgs false
set_option maxRecDepth 100000
noncomputable def ckPre : List Code := (lin ckC).take 3
noncomputable def ckNew : Array Oper := opsOf ((lin ckC).drop 3)
theorem ckC_lin : lin ckC = ckPre ++ (.region 3 ckNew false :: ([] ++ (lin ckC).drop 4)) := by kernel_rfl
noncomputable def r4Ops : Array Oper := opsOf [ckR4]
theorem r4_is : ckR4 = .region 4 r4Ops false := by kernel_rfl
theorem r4_size : r4Ops.size = 9 ∧ (r4Ops.toList.take 1).length = 1 ∧ (r4Ops.toList.drop 2).length = 7 := by
  refine ⟨?_, ?_, ?_⟩ <;> kernel_rfl
theorem gws_fn : E0n.fn 10 = some Try.f10 := by kernel_rfl
def gwS : List AC := setAt' (setAt' (gwI 0) 4 (.sym 30)) 5 (.sym 31)
def gwT : AV := .tup [.agg gwS, .agg (gwI 1)]
def ckGw (hl : Bool) (o : Oper) (t : Sl) (s : St) : Bool :=
  match calleeOf o, o.dst with
  | some (f, l), some e => Nat.beq f 10 && (Nat.beq e 31 && ((match evals t l with | [.one (.c (.ptr (some (4, 0))))] => true | _ => false) && (codesIn hl 4 5 s 900 && (rfreeT 30 32 t t.length && rfreeH 30 32 (codeOn s 4).heap))))
  | _, _ => false
theorem ckGw_ok {hl : Bool} {o : Oper} {t : Sl} {s : St} (h : ckGw hl o t s = true) : ∃ l, calleeOf o = some (10, l) ∧ o.dst = some 31 ∧ evals t l = [.one (.c (.ptr (some (4, 0))))] ∧ codesIn hl 4 5 s 900 = true ∧ rfreeT 30 32 t t.length = true ∧ rfreeH 30 32 (codeOn s 4).heap = true := by
  unfold ckGw at h
  split at h
  · rename_i f l e h1 h2
    simp only [Bool.and_eq_true] at h
    obtain ⟨k1, k2, k3, k4, k5, k6⟩ := h
    have k1 := Nat.eq_of_beq_eq_true k1
    subst k1
    have k2 := Nat.eq_of_beq_eq_true k2
    subst k2
    refine ⟨l, h1, h2, ?_, k4, k5, k6⟩
    split at k3
    · rename_i he
      exact he
    · cases k3
  · cases h
def tJ : Sl := lset (lset (lset (lset (anyK 159 ⟨159, .leaf⟩) 1 (syK 1)) 2 (syK 2)) 7 (ptK 0)) 8 (ptK 2)
def sJ (hl : Bool) : St := ⟨(2, ⟨36, gwK (halfK false 0 4 0), none⟩) :: (0, ⟨84, [], some (900, 0)⟩) :: (bif hl then [(1, ⟨5, [], some (901, 0)⟩)] else []), 10, 4, []⟩
def tellJ (hl : Bool) (t : Sl) : Tell where
  f := (0, idAt t 7) :: (2, idAt t 8) :: (bif hl then [(1, 5)] else [])
  fc := []
  src := id
  p := fun _ => true
  lit := fun j => bif Nat.beq j 20 then some 0 else none
def tellL (t : Sl) (s : St) : Tell := { mkTell t s false [] id with p := fun _ => true, lit := fun j => bif Nat.beq j 60 then some 0 else none }
def hd0 : Hd := ⟨0, false, false⟩
/-- The block of the other gateway is told of no more. -/
def deadCk (hl : Bool) (n : Nat) (t : Sl) (s : St) : Bool :=
  Nat.ble n (idAt t 9) && (Nat.blt (idAt t 9) s.next && ((look s.heap (idAt t 9)).isSome && (s.dirty.all (fun j => Nat.ble n j) && (tellJ hl t).f.all (fun x => (look s.heap x.2).isSome && !(Nat.beq x.2 (idAt t 9))))))
noncomputable def startCk (hl : Bool) (t : Sl) (s : St) : Bool :=
  rfreeT 902 903 t t.length && (rfreeH 902 903 s.heap && (match opsA E0n (fnA E0n 30) r4Ops (r4Ops.toList.take 1) t s with
    | some (t1, s1) => (match r4Ops[1]? with
      | some o1 => ckGw hl o1 t1 s1 && (match opsA E0n (fnA E0n 30) r4Ops (r4Ops.toList.drop 2) (lset t1 31 gwT) { codeOn s1 4 with dirty := [] } with
        | some (t2, s2) => deadCk hl s1.next t2 s2 && (retOK (tellJ hl t2) t2 s2 tJ (sJ hl) && okNorm tellL tK0 (sK0 hl hd0) (codeAL E0n ck56 tJ (sJ hl)))
        | none => false)
      | none => false)
    | none => false))
noncomputable def ckM (hl : Bool) : Bool :=
  match codeAL E0n ckPre (pad Try.f6.ntmps [syK 0, syK 1, syK 2]) st0 with
  | some (t1, s1) => (match newR E0n 250 ckNew t1 s1 with
    | some t2 => startCk hl t2 (newS hl { s1 with heap := [] })
    | none => false)
  | none => false
theorem ckMT : ckM true = true := by kernel_rfl
theorem ckMF : ckM false = true := by kernel_rfl
/-- What is known in the beginning. -/
def vK (sl : Value) (own frm : Int) : Nat → Value
  | 0 => sl
  | 1 => .int .i64 own
  | 2 => .int .i64 frm
  | 285 => .slice none 0 0
  | 288 => .slice none 0 0
  | _ => .int .i64 0
theorem vK_one {A : Option Addr} {n c : Nat} {x y : Int} (i : Nat) : (vK (.slice A n c) x y i).oneCell' = true := by
  unfold vK
  split <;> rfl
theorem sliceOf_one (m : Nat) : (sliceOf m).oneCell' = true := rfl
section
variable {W : Nat → Value} {DK DK' : Nat → Prop} {wK wK' : World} {n : Nat} {q : Ls} {ga : Nat} {row : Array Value} {base : Nat} {w0 : World} {hl : Bool}
theorem e0n_ok {V : Nat → Value} (h1 : ∀ i, (V i).oneCell' = true) : EnvOK Try.prog V E0n ∧ ExtOK Try.prog V E0n :=
  ⟨env_ok (fun op a b z h => (by cases h)) (fun k i z h => (by cases h)) h1, noExt_ok rfl⟩
theorem ExtOK.kk {V : Nat → Value} {E : Env} (h : ExtOK Try.prog V E) : ExtOKK DK wK Try.prog V E := ⟨h.ok.k, h.up, h.fn⟩
theorem clo_out30 {cs : List Value} (hcs : cs.length = 2) : ∀ i, (i < 30 ∨ 32 ≤ i) → VK W q ga row i = VK (withVs W 30 cs) q ga row i := by
  intro i hi
  have hout : ∀ j, (j < 30 ∨ 32 ≤ j) → withVs W 30 cs j = W j := fun j hj => (withVs_out j (by rw [hcs]; omega)).symm
  have e : clo W i = clo (withVs W 30 cs) i := by
    unfold clo
    rw [hout 20 (by omega), hout 60 (by omega)]
    split
    · rfl
    · split
      · rfl
      · split
        · rw [hout (i - 1) (by omega)]
        · rw [hout i (by omega)]
  show vL _ q ga row 0 0 i = vL _ q ga row 0 0 i
  unfold vL
  split
  · rfl
  · split
    · rfl
    · split
      · rfl
      · exact e
/-- The cells of the first gateway, its rules and groups symbols. -/
theorem gwS_f2 {V : Nat → Value} {ρ : Rho} {cs : List Value} {m4 m5 : Nat} (h : F2 (CR V ρ) (gwI 0) cs) (h4 : cs[4]? = some (sliceOf m4)) (h5 : cs[5]? = some (sliceOf m5)) (e4 : V 30 = sliceOf m4) (e5 : V 31 = sliceOf m5) : F2 (CR V ρ) gwS cs :=
  f2_set' 5 (f2_set' 4 h h4 e4.symm) h5 e5.symm
theorem tm_zero {DK : Nat → Prop} {w : World} : TrS DK w (.mk 0 0 []) none 0 :=
  .mk (fun _ => none) (fun _ => 0) (by unfold fits; omega) (by unfold fits; omega) (Nat.le_refl _) (Nat.zero_le _) (fun i hi => absurd hi (Nat.not_lt_zero _)) (fun i hi => absurd hi (Nat.not_lt_zero _))
/-- From where the choices are laid to the loop. -/
theorem start_ok (hL : LsOK hl q ga row) (hone : ∀ i, (W i).oneCell' = true) (hi : ∀ j, j ∈ [1, 2, 20, 60, 280, 281, 282, 289] → ∃ a, W j = .int .i64 a) (h20 : W 20 = .int .i64 0) (h60 : W 60 = .int .i64 0)
    (hz : ∀ j, j ∈ [283, 286] → W j = .int .i64 0 ∧ W (j + 1) = .int .i64 0 ∧ W (j + 2) = .slice none 0 0) {t : Sl} {s : St} (hck : startCk hl t s = true) {b p : Nat} {a : Act} {w : World} (hh : Here (vL (clo W) q ga row b p) base w0 t s a w) {r : List Code} {Q : Exit → Act → World → Prop}
    (hQ : ∀ W' DK' wK', Fct W' DK' wK' 0 → W' 60 = .int .i64 0 → ∀ a' w', HereK DK' wK' (VK W' q ga row) base w0 tK0 (sK0 hl hd0) a' w' → wpL Try.prog Q r a' w') : wpL Try.prog Q (ckR4 :: (ck56 ++ r)) a w := by
  unfold startCk at hck
  simp only [Bool.and_eq_true] at hck
  obtain ⟨ft, fh, hck⟩ := hck
  split at hck
  · rename_i t1 s1 r1
    split at hck
    · rename_i o1 ho1
      simp only [Bool.and_eq_true] at hck
      obtain ⟨ck, hck⟩ := hck
      split at hck
      · rename_i t2 s2 r2
        simp only [Bool.and_eq_true] at hck
        obtain ⟨hd, hret, hnorm⟩ := hck
        obtain ⟨z1, z2, z3⟩ := r4_size
        rw [r4_is]
        show (Code.region 4 r4Ops false).wp Try.prog (Exit.then (wpL Try.prog Q (ck56 ++ r)) Q) a w
        refine wp_region ?_
        rw [z1, List.range_eq_range']
        obtain ⟨ρ, ht, hr, h1, h2, h3, h4, h5⟩ := hh
        have hbp : ∀ i, (i < 902 ∨ 903 ≤ i) → vL (clo W) q ga row b p i = VK W q ga row i := by
          intro i hi
          show vL _ q ga row b p i = vL _ q ga row 0 0 i
          unfold vL
          split
          · rfl
          · split
            · rfl
            · rw [if_neg (by omega), if_neg (by omega)]
        have ht := tr_raV hbp ft ht
        have hr := rep_raV hbp fh hr
        have hV1 := vL_one (q := q) (ga := ga) (row := row) (clo_one hone) 0 0
        obtain ⟨e1, e2⟩ := e0n_ok hV1
        have c0 : Clean ρ s := ⟨h1, h2⟩
        have hk : KP (fun _ => False) w ρ w := ⟨fun b h => h.elim, fun b h => h.elim, fun b h => h.elim⟩
        have tk := ops_takeK e1 (fnA_ok e1 e2 30).k (fnA_fn (E := E0n) e2.fn 30) (fnA_up (E := E0n) e2.up 30) (ops := r4Ops) (r4Ops.toList.take 1) 0 8 (fun i o ho => by have := sub_at (ops := r4Ops) (k := 0) (n := 1) i o (by simpa using ho); exact this) r1 ht hr (c0.free _) hk (Q := Exit.then (wpL Try.prog Q (ck56 ++ r)) Q)
        rw [z2] at tk
        refine tk (fun ρ1 a1 w1 g1 ht1 hk1 => ?_)
        have c1 := c0.goes g1
        rw [show (0 + 1 : Nat) = 1 from rfl, show (8 : Nat) = 7 + 1 from rfl, List.range'_succ, wpOps_cons]
        obtain ⟨l3, q1, q2, q3, q4, q5, q6⟩ := ckGw_ok ck
        refine wp_callee2 e1 gws_fn ho1 q1 ht1 (fun vals hv => ?_)
        rw [q3] at hv
        obtain ⟨d0, d1⟩ := codesIn_ok q4
        obtain ⟨g, p', hb, hC⟩ := rep_some hL g1.1 d0 d1
        obtain ⟨hrow, hne⟩ := row_ne hL g1.1 q4 hC
        have hvals : vals = #[.pointer (some ⟨g, 0, none⟩)] := by
          apply Array.ext'
          match hl : vals.toList, hv with
          | [x], hv =>
            obtain ⟨b', f0, f1⟩ := hv.1
            rw [hb] at f0
            injection f0 with f0
            subst f0
            rw [f1]
        subst hvals
        refine (gws_any hL hC hrow hne).mono ?_
        rintro e w2 ⟨cs1, cs2, rfl, hG1, hG2, ⟨p2, hC'⟩, hg, _⟩
        obtain ⟨hG1, DKg, wKg, m4, m5, u4, u5, ⟨dp4, dp5⟩, hsz, hfresh⟩ := hG1
        have hgo := go_codes (V := VK W q ga row) g1.1 d0 hb hg hC'.2.2.1 (pb_some hC'.1)
        have hk2 := hk1.ext hgo.2.1
        have hlen : ([sliceOf m4, sliceOf m5] : List Value).length = 2 := rfl
        have hW' : ∀ i, (withVs W 30 [sliceOf m4, sliceOf m5] i).oneCell' = true := withVs_one hone (fun v hv => by
          simp only [List.mem_cons, List.not_mem_nil, or_false] at hv
          rcases hv with rfl | rfl <;> exact sliceOf_one _)
        have outW : ∀ j, (j < 30 ∨ 32 ≤ j) → withVs W 30 [sliceOf m4, sliceOf m5] j = W j := fun j hj => (withVs_out j (by rw [hlen]; omega)).symm
        have in30 : withVs W 30 [sliceOf m4, sliceOf m5] 30 = sliceOf m4 := withVs_in (lo := 30) (j := 0) rfl
        have in31 : withVs W 30 [sliceOf m4, sliceOf m5] 31 = sliceOf m5 := withVs_in (lo := 30) (j := 1) rfl
        generalize hWn : withVs W 30 [sliceOf m4, sliceOf m5] = Wn at hW' outW in30 in31
        have hout30 : ∀ i, (i < 30 ∨ 32 ≤ i) → VK W q ga row i = VK Wn q ga row i := by
          rw [← hWn]
          exact clo_out30 hlen
        have low : ∀ j, j < 900 → pK j = true → VK Wn q ga row j = Wn j := fun j hj hp => by
          show vL _ q ga row 0 0 j = _
          rw [vL_low hj, clo_p hp]
        refine ⟨_, rfl, ?_⟩
        have hr2 : Rep (VK Wn q ga row) ρ1 { codeOn s1 4 with dirty := [] } w2 := by
          have := rep_raV (lo := 30) (hi := 32) hout30 q6 hgo.1
          exact ⟨this.h, this.inj, this.bnd, this.lt⟩
        have ht2 : TR (VK Wn q ga row) ρ1 (lset t1 31 gwT) (a1.put o1.dst (.tuple #[.agg cs1, .agg cs2])) := by
          have ht' := tr_raV (lo := 30) (hi := 32) hout30 q5 ht1
          rw [q2]
          exact tr_put ht' (d := some 31) (v := gwT) ⟨#[.agg cs1, .agg cs2], rfl, ⟨cs1, rfl, gwS_f2 (hG1 _ _) u4 u5 (by rw [low 30 (by omega) rfl]; exact in30) (by rw [low 31 (by omega) rfl]; exact in31)⟩, ⟨cs2, rfl, hG2.1 _ _⟩, trivial⟩
        have hk3 : KP DKg wKg ρ1 w2 := ⟨fun b hb => (hfresh b hb).2.1, fun b hb => (hfresh b hb).2.2, fun b hb i e => by
          have := g1.1.bnd i b e
          have := (hfresh b hb).1
          omega⟩
        have hV2 := vL_one (q := q) (ga := ga) (row := row) (clo_one hW') 0 0
        obtain ⟨e3, e4⟩ := e0n_ok hV2
        have c2 : Clean ρ1 { codeOn s1 4 with dirty := [] } := ⟨(c1.goes hgo).b, (c1.goes hgo).c⟩
        have tk2 := ops_takeK e3 (fnA_ok e3 e4 30).k (fnA_fn (E := E0n) e4.fn 30) (fnA_up (E := E0n) e4.up 30) (ops := r4Ops) (r4Ops.toList.drop 2) 2 0 sub_at' r2 ht2 hr2 (c2.free _) hk3 (Q := Exit.then (wpL Try.prog Q (ck56 ++ r)) Q)
        rw [z3] at tk2
        refine tk2 (fun ρ4 a4 w4 g4 ht4 hk4 => ?_)
        -- here
        have hs0 : HereK (fun _ => False) w (VK W q ga row) base w0 t1 (codeOn s1 4) a1 w2 := hereK_goes hr h1 h2 h3 h4 h5 hk (g1.trans _ hgo) (ht1.mono _ hgo.2.2)
        obtain ⟨ρ', _, _, _, _, _, b1, b2, _⟩ := hs0
        have hbase : ∀ i b, ρ1.blk i = some b → base ≤ b := by
          intro i b hb
          by_cases hi : i < s.next ∨ s1.next ≤ i
          · rw [g1.2.1.blk i hi] at hb
            exact h3 i b hb
          · rcases g1.2.1.new i b (by omega) (by omega) hb with h | ⟨j, _, _, h⟩
            · omega
            · exact h3 j b h
        have hbase4 : ∀ i b, ρ4.blk i = some b → base ≤ b := by
          intro i b hb
          by_cases hi : i < s1.next ∨ s2.next ≤ i
          · rw [g4.2.1.blk i hi] at hb
            exact hbase i b hb
          · rcases g4.2.1.new i b (by show s1.next ≤ i; omega) (by omega) hb with h | ⟨j, _, _, h⟩
            · omega
            · exact hbase j b h
        have hs4 := hereK_goes (base := base) (w0 := w0) hr2 c2.b c2.c hbase b1 b2 hk3 g4 ht4
        obtain ⟨_, _, _, _, _, _, b3, b4, _⟩ := hs4
        -- the dead block
        unfold deadCk at hd
        simp only [Bool.and_eq_true] at hd
        obtain ⟨x1, x2, x3, x4, x5⟩ := hd
        have x1 := Nat.le_of_ble_eq_true x1
        have x2 : idAt t2 9 + 1 ≤ s2.next := Nat.le_of_ble_eq_true x2
        obtain ⟨B9, hB9⟩ := Option.isSome_iff_exists.1 x3
        obtain ⟨b9, cs9, y1, y2, _⟩ := g4.1.h _ _ hB9
        have y3 : w2.heap.size ≤ b9 := by
          rcases g4.2.1.new _ b9 (show s1.next ≤ idAt t2 9 from x1) (by omega) y1 with h | ⟨j, hj, hj2, _⟩
          · exact h
          · have := Nat.le_of_ble_eq_true (List.all_eq_true.1 x4 j hj)
            have hj2 : j < s1.next := hj2
            omega
        have y4 : b9 < w4.heap.size := g4.1.bnd _ b9 y1
        -- told anew
        obtain ⟨k1, k2, k3, k4, k5⟩ := tell_all (V := VK Wn q ga row) (V' := VK Wn q ga row) (T := tellJ hl t2) hV2 (fun j _ => rfl) (fun j b hb => by
          have hb : (bif Nat.beq j 20 then some (0 : Int) else none) = some b := hb
          by_cases hj : j = 20
          · subst hj
            injection hb with hb
            subst hb
            rw [low 20 (by omega) rfl, outW 20 (by omega), h20]
          · rw [beq_no hj] at hb
            cases hb) hret ht4 g4.1
        have hkp : KP (fun b => DKg b ∨ b = b9) w4 (ρ4.tell (tellJ hl t2)) w4 := by
          refine ⟨?_, fun _ _ => rfl, ?_⟩
          · rintro b (hb' | rfl)
            · exact hk4.lt b hb'
            · exact y4
          · rintro b (hb' | rfl) j e
            · obtain ⟨i, _, e'⟩ := k5 j b e
              exact hk4.no b hb' i e'
            · obtain ⟨i, e1', e'⟩ := k5 j b e
              have := List.all_eq_true.1 x5 _ (lkN_mem e1')
              simp only [Bool.and_eq_true, Bool.not_eq_true'] at this
              obtain ⟨B, hB⟩ := Option.isSome_iff_exists.1 this.1
              have e9 := g4.1.inj i (idAt t2 9) B B9 b hB hB9 e' y1
              have := this.2
              rw [e9, Nat.beq_refl] at this
              cases this
        have rfl_of : ∀ {f : Nat} {v : Value}, Refl f v DKg wKg → Rfl f v (fun b => DKg b ∨ b = b9) w4 := by
          intro f v h w5 h5
          refine h w5 ?_ (fun b hb => ?_)
          · have := (h5 b9 (.inr rfl)).1
            omega
          · exact (h5 b (.inl hb)).2.trans (hk4.eq b hb)
        have F : Fct Wn (fun b => DKg b ∨ b = b9) w4 0 := by
          have gi : ∀ j, j ∈ [1, 2, 20, 60, 280, 281, 282, 289] → ∃ a, Wn j = .int .i64 a := fun j hj => by
            rw [outW j (by
              simp only [List.mem_cons, List.not_mem_nil, or_false] at hj
              omega)]
            exact hi j hj
          have gz : ∀ j, j ∈ [283, 286] → ∃ t A c, TmAt Wn (fun b => DKg b ∨ b = b9) w4 j t A c := fun j hj => by
            obtain ⟨g1, g2, g3⟩ := hz j hj
            have hj' : j = 283 ∨ j = 286 := by simpa using hj
            exact ⟨.mk 0 0 [], none, 0, (outW j (by omega)).trans g1, (outW (j + 1) (by omega)).trans g2, (outW (j + 2) (by omega)).trans g3, tm_zero⟩
          refine ⟨hW', gi 1 (by simp), gi 2 (by simp), gi 20 (by simp), gi 60 (by simp), ?_, ?_, fun e he => absurd he (Nat.not_lt_zero _), ⟨gi 280 (by simp), gi 281 (by simp), gi 282 (by simp), gi 289 (by simp), gz 283 (by simp), gz 286 (by simp)⟩⟩
          · rw [in30]
            exact rfl_of dp4
          · rw [in31]
            exact rfl_of dp5
        have hsJ : HereK (fun b => DKg b ∨ b = b9) w4 (VK Wn q ga row) base w0 tJ (sJ hl) a4 w4 := ⟨_, k1, k2, k3, k4, fun j b hb => by
          obtain ⟨i, _, e'⟩ := k5 j b hb
          exact hbase4 i b e', b3, b4, hkp⟩
        show wpL Try.prog Q (ck56 ++ r) a4 w4
        exact norm_ok (V' := VK Wn q ga row) ⟨e3, ExtOK.kk e4⟩ (T := tellL) (fun t s j _ => rfl) (fun t s j b hb => by
          have hb : (bif Nat.beq j 60 then some (0 : Int) else none) = some b := hb
          by_cases hj : j = 60
          · subst hj
            injection hb with hb
            subst hb
            rw [low 60 (by omega) rfl, outW 60 (by omega), h60]
          · rw [beq_no hj] at hb
            cases hb) hnorm hsJ (fun a' w' h' => hQ Wn _ _ F (by rw [outW 60 (by omega), h60]) a' w' h')
      · cases hck
    · cases hck
  · cases hck
/-- The end. -/
theorem fin_wp {c : Cl} (F : Fct W DK wK n) (C : ClOK W DK wK n c) {t : Sl} {s : St} (hf : finOK (eK c) t s = true) {a : Act} {w : World} (hs : HereK DK wK (VK W q ga row) w0.heap.size w0 t s a w) : wpL Try.prog (LawQ Try.f6 w0) ckP.fin a w := by
  have hE := eK_ok (q := q) (ga := ga) (row := row) F C
  unfold finOK at hf
  split at hf
  · rename_i f hfin
    rw [hfin]
    split at hf
    · rename_i t1 s1 h1
      split at hf
      · rename_i hres
        refine codeALK_ok hE.1 hE.2 [f] h1 hs (r := [.ret]) (fun a' w' h' => ?_)
        obtain ⟨ρ', ht', hr', _, _, _, hb, _⟩ := h'
        obtain ⟨vs, g1, g2⟩ := results_ok hE.1 ht' hr' _ _ hres
        have hr2 : (results Try.f6 a'.tmps).run Try.prog w' = .ok (if h : vs.toArray.size = 1 then vs.toArray[0] else .tuple vs.toArray) w' := by
          unfold results
          rw [Array.mapM_eq_mapM_toList]
          simp only [Sem.run_bind, Sem.run_map, Sem.run_pure]
          generalize hX : Sem.run Try.prog (List.mapM _ (Try.f6).results.toList) w' = Y
          have hY : Y = .ok vs w' := hX.symm.trans g1
          rw [hY]
          simp only [Result.andThen_ok]
        have hv : vs = [.bool true] := by
          match vs, g2 with
          | [v], g2 => rw [show v = .bool true from g2.1]
        subst hv
        show (Code.ret).wp Try.prog _ a' w'
        refine wp_ret ?_
        exact ⟨ht'.df, _, hr2, rfl, hb⟩
      · cases hf
    · cases hf
  · cases hf
end
end Ab
namespace cookieKeeps
open Ab RowKit
set_option linter.unusedVariables false
theorem cookieKeeps_walk (w : World) (A : Option Addr) (len cap : Nat) (hB : Byts w A len) (hl : len ≤ cap ∧ cap ≤ maxLen) (a1 : Int) (h1 : -9223372036854775808 ≤ a1 ∧ a1 ≤ 9223372036854775807) (a2 : Int) (h2 : -9223372036854775808 ≤ a2 ∧ a2 ≤ 9223372036854775807) :
    Calls Try.prog 6 #[.slice A len cap, .int .i64 a1, .int .i64 a2] w fun e w' => e = .returned (.bool true) ∧ RowKit.Below w.heap.size w w' := by
  have low : ∀ j, pK j = true → clo (vK (.slice A len cap) a1 a2) j = vK (.slice A len cap) a1 a2 j := fun j hj => clo_p hj
  have args : F2 (VR (clo (vK (.slice A len cap) a1 a2)) ρ0) [syK 0, syK 1, syK 2] #[.slice A len cap, .int .i64 a1, .int .i64 a2].toList := ⟨(low 0 rfl).symm, (low 1 rfl).symm, (low 2 rfl).symm, trivial⟩
  have hone : ∀ i, (clo (vK (.slice A len cap) a1 a2) i).oneCell' = true := clo_one vK_one
  have hM : ∀ hl, ckM hl = true := fun hl => by cases hl; exact ckMF; exact ckMT
  have h0 := hM true
  unfold ckM at h0 hM
  split at h0
  · rename_i t1 s1 hpre
    split at h0
    · rename_i t2 hnew
      refine law3_ok (V0 := clo (vK (.slice A len cap) a1 a2)) (E0 := E0n) (E := fun _ => E0n) Try.func6 ckC_is args (by rw [Try.ntmps6]; show 3 ≤ _; omega) w (low 0 rfl) hB hl.1 hl.2 (most := 250) (by omega)
        (e0n_ok hone).1 (e0n_ok hone).2 (by kernel_rfl) ckC_lin hpre hnew (fun hl q ga row hL b p _ => e0n_ok (vL_one hone b p)) (fun hl => ?_)
      have hm := hM hl
      rw [hpre] at hm
      simp only [hnew] at hm
      refine ⟨t2, _, rfl, fun q ga row hL a w' hh => ?_⟩
      obtain ⟨b, p, hp, hh⟩ := hh
      rw [ck_rest]
      refine start_ok hL vK_one ?_ rfl rfl ?_ hm hh (fun W' DK' wK' F h60 a' w'' hs => ?_)
      · intro j hj
        simp only [List.mem_cons, List.not_mem_nil, or_false] at hj
        rcases hj with rfl | rfl | rfl | rfl | rfl | rfl | rfl | rfl <;> exact ⟨_, rfl⟩
      · intro j hj
        simp only [List.mem_cons, List.not_mem_nil, or_false] at hj
        rcases hj with rfl | rfl <;> exact ⟨rfl, rfl, rfl⟩
      · show (Code.block 0 (.loop ckB)).wp Try.prog _ a' w''
        refine wp_block (wp_of_loop ?_)
        refine rounds_ok hL ?_ 12 0 (by omega) (by omega) (h := hd0) (by simp [allHd, hd0]) F h60 hs
        intro W2 DK2 wK2 n c t s a3 w3 F3 C hf hs3
        exact fin_wp F3 C hf hs3
    · cases h0
  · cases h0
end cookieKeeps
end Go.Proofs.Ytddiclnkfhldlaa
