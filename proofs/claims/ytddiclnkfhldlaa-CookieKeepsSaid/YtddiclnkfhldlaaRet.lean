/-
  A state told anew: under other numbers and symbols, with less known; code with deep memory kept beside.
  Conditions: none.
-/
import Derived.Test.YtddiclnkfhldlaaFr
import Derived.Test.YtddiclnkfhldlaaLaw3
namespace Go.Proofs.Ytddiclnkfhldlaa
namespace Ab
open Go.RowKit
set_option linter.unusedVariables false
set_option linter.unusedSimpArgs false
--DEFS
inductive CS | old (i : Nat) | lit (a : Nat)
def lkC : List (Nat × CS) → Nat → Option CS
  | [], _ => none
  | x :: r, i => bif Nat.beq x.1 i then some x.2 else lkC r i
/-- How a state is told anew. -/
structure Tell where
  f : List (Nat × Nat)
  fc : List (Nat × CS)
  src : Nat → Nat
  p : Nat → Bool
  lit : Nat → Option Int
def tCap (T : Tell) : Cap → Cap → Bool
  | .lit a, .lit b => Nat.beq a b
  | .sym i, .sym j => match lkC T.fc j with | some (.old k) => Nat.beq k i | _ => false
  | .lit a, .sym j => match lkC T.fc j with | some (.lit k) => Nat.beq k a | _ => false
  | _, _ => false
def tC (T : Tell) : AC → AC → Bool
  | _, .any => true
  | .int k a, .int k' b => decide (k = k') && (a == b)
  | .bool a, .bool b => a == b
  | .sym i, .sym j => T.p j && Nat.beq i (T.src j)
  | .int k a, .sym j => decide (k = .i64) && (match T.lit j with | some b => a == b | none => false)
  | .ptr none, .ptr none => true
  | .ptr (some (i, o)), .ptr (some (j, q)) => Nat.beq o q && isN (lkN T.f j) i
  | .slice none n c, .slice none m d => Nat.beq n m && tCap T c d
  | .slice (some (i, o)) n c, .slice (some (j, q)) m d => Nat.beq o q && (Nat.beq n m && (isN (lkN T.f j) i && tCap T c d))
  | .rng n, .rng m => Nat.ble n m
  | _, _ => false
def tL (T : Tell) : List AC → List AC → Bool
  | [], [] => true
  | x :: r, y :: s => tC T x y && tL T r s
  | _, _ => false
def tV (T : Tell) : AV → AV → Bool
  | _, .any => true
  | .one (.c x), .one (.c y) => tC T x y
  | .one (.agg l), .one (.agg m) => tL T l m
  | _, _ => false
def tT (T : Tell) (t u : Sl) : Nat → Bool
  | 0 => true
  | d + 1 => tV T (lget t d) (lget u d) && tT T t u d
/-- The first cells. -/
def tP (T : Tell) : List AC → List AC → Bool
  | _, [] => true
  | x :: r, y :: s => tC T x y && tP T r s
  | [], _ :: _ => false
def tM (T : Tell) (B C : Blk) : Bool :=
  match B.more, C.more with
  | none, none => Nat.beq B.cells.length C.cells.length
  | none, some (d, z) => !(Nat.beq z 0) && (match lkC T.fc d with | some (.lit m) => Nat.beq B.cells.length (m * z) | _ => false)
  | some (c, z), some (d, y) => Nat.beq z y && (bif Nat.beq z 0 then Nat.beq c d && (C.cells.isEmpty && (T.p d && Nat.beq (T.src d) d)) else (match lkC T.fc d with | some (.old k) => Nat.beq k c | _ => false))
  | _, _ => false
def tH (T : Tell) (H : List (Nat × Blk)) : List (Nat × Blk) → Bool
  | [] => true
  | x :: r => (match lkN T.f x.1 with
    | some i => (match look H i with
      | some B => Nat.beq B.ty x.2.ty && (tP T B.cells x.2.cells && tM T B x.2)
      | none => false)
    | none => false) && tH T H r
def allLtC (n : Nat) : List (Nat × CS) → Bool
  | [] => true
  | x :: r => Nat.blt x.1 n && allLtC n r
def retOK (T : Tell) (t : Sl) (s : St) (u : Sl) (r : St) : Bool :=
  Nat.beq t.length u.length && (tT T t u u.length && (tH T s.heap r.heap && (noDup (T.f.map (·.2)) && (allLt r.next T.f && allLtC r.ncap T.fc))))
--END
def Rho.tell (ρ : Rho) (T : Tell) : Rho := ⟨fun j => (lkN T.f j).bind ρ.blk, fun j => match lkC T.fc j with | some (.old i) => ρ.cap i | some (.lit a) => some a | none => none⟩
section
variable {V V' : Nat → Value} {T : Tell}
theorem tCap_ok {ρ : Rho} : ∀ {c d : Cap} {m : Nat}, tCap T c d = true → CapR ρ c m → CapR (ρ.tell T) d m
  | .lit a, .lit b, m, h, hc => by
    have e := Nat.eq_of_beq_eq_true h
    subst e
    exact hc
  | .sym i, .sym j, m, h, hc => by
    have h : (match lkC T.fc j with | some (.old k) => Nat.beq k i | _ => false) = true := h
    show (match lkC T.fc j with | some (.old i) => ρ.cap i | some (.lit a) => some a | none => none) = some m
    split at h
    · rename_i k hk
      have e := Nat.eq_of_beq_eq_true h
      subst e
      rw [hk]
      exact hc
    · cases h
  | .lit a, .sym j, m, h, hc => by
    have h : (match lkC T.fc j with | some (.lit k) => Nat.beq k a | _ => false) = true := h
    show (match lkC T.fc j with | some (.old i) => ρ.cap i | some (.lit a) => some a | none => none) = some m
    split at h
    · rename_i k hk
      have e := Nat.eq_of_beq_eq_true h
      subst e
      rw [hk]
      have hc : m = k := hc
      rw [hc]
    · cases h
theorem tC_ok (hone : ∀ i, (V i).oneCell' = true) (hV : ∀ j, T.p j = true → V' j = V (T.src j)) (hL : ∀ j b, T.lit j = some b → V' j = .int .i64 b) {ρ : Rho} {x y : AC} {v : Value} (h : tC T x y = true) (hx : CR V ρ x v) : CR V' (ρ.tell T) y v := by
  unfold tC at h
  split at h
  · exact hx.one V hone
  · simp only [Bool.and_eq_true, decide_eq_true_eq, beq_iff_eq] at h
    obtain ⟨rfl, rfl⟩ := h
    exact hx
  · simp only [beq_iff_eq] at h
    subst h
    exact hx
  · rename_i i j
    simp only [Bool.and_eq_true] at h
    have e := Nat.eq_of_beq_eq_true h.2
    show v = V' j
    rw [hV j h.1, ← e]
    exact hx
  · rename_i k a j
    simp only [Bool.and_eq_true, decide_eq_true_eq] at h
    obtain ⟨rfl, h⟩ := h
    split at h
    · rename_i b hb
      simp only [beq_iff_eq] at h
      subst h
      show v = V' j
      rw [hL j _ hb]
      exact hx
    · cases h
  · exact hx
  · simp only [Bool.and_eq_true] at h
    have e1 := Nat.eq_of_beq_eq_true h.1
    have e2 := isN_eq h.2
    subst e1
    obtain ⟨b, h1, h2⟩ := hx
    exact ⟨b, by show (lkN T.f _).bind ρ.blk = some b; rw [e2]; exact h1, h2⟩
  · simp only [Bool.and_eq_true] at h
    have e1 := Nat.eq_of_beq_eq_true h.1
    subst e1
    obtain ⟨m, h1, h2, h3⟩ := hx
    exact ⟨m, tCap_ok h.2 h1, h2, h3⟩
  · simp only [Bool.and_eq_true] at h
    obtain ⟨e1, e2, e3, e4⟩ := h
    have e1 := Nat.eq_of_beq_eq_true e1
    have e2 := Nat.eq_of_beq_eq_true e2
    have e3 := isN_eq e3
    subst e1
    subst e2
    obtain ⟨b, m, h1, h2, h3, h4⟩ := hx
    exact ⟨b, m, by show (lkN T.f _).bind ρ.blk = some b; rw [e3]; exact h1, tCap_ok e4 h2, h3, h4⟩
  · have e := Nat.le_of_ble_eq_true h
    obtain ⟨n, h1, h2⟩ := hx
    exact ⟨n, by omega, h2⟩
  · cases h
theorem tL_ok (hone : ∀ i, (V i).oneCell' = true) (hV : ∀ j, T.p j = true → V' j = V (T.src j)) (hL : ∀ j b, T.lit j = some b → V' j = .int .i64 b) {ρ : Rho} : ∀ {x y : List AC} {v : List Value}, tL T x y = true → F2 (CR V ρ) x v → F2 (CR V' (ρ.tell T)) y v
  | [], [], [], _, _ => trivial
  | x :: r, y :: s, v :: vs, h, hx => by
    simp only [tL, Bool.and_eq_true] at h
    exact ⟨tC_ok hone hV hL h.1 hx.1, tL_ok hone hV hL h.2 hx.2⟩
  | [], _ :: _, _, h, _ => by cases h
  | _ :: _, [], _, h, _ => by cases h
  | [], [], _ :: _, _, h => h.elim
  | _ :: _, _ :: _, [], _, h => h.elim
theorem tP_ok (hone : ∀ i, (V i).oneCell' = true) (hV : ∀ j, T.p j = true → V' j = V (T.src j)) (hL : ∀ j b, T.lit j = some b → V' j = .int .i64 b) {ρ : Rho} : ∀ {x y : List AC} {v : List Value}, tP T x y = true → F2 (CR V ρ) x v → ∃ a b, v = a ++ b ∧ F2 (CR V' (ρ.tell T)) y a
  | x, [], v, _, _ => ⟨[], v, rfl, trivial⟩
  | x :: r, y :: s, v :: vs, h, hx => by
    simp only [tP, Bool.and_eq_true] at h
    obtain ⟨a, b, e, k⟩ := tP_ok hone hV hL h.2 hx.2
    exact ⟨v :: a, b, by rw [e]; rfl, tC_ok hone hV hL h.1 hx.1, k⟩
  | [], _ :: _, _, h, _ => by cases h
  | _ :: _, _ :: _, [], _, h => h.elim
theorem tV_ok (hone : ∀ i, (V i).oneCell' = true) (hV : ∀ j, T.p j = true → V' j = V (T.src j)) (hL : ∀ j b, T.lit j = some b → V' j = .int .i64 b) {ρ : Rho} {x y : AV} {v : Value} (h : tV T x y = true) (hx : VR V ρ x v) : VR V' (ρ.tell T) y v := by
  unfold tV at h
  split at h
  · exact trivial
  · exact tC_ok hone hV hL h hx
  · obtain ⟨cs, h1, h2⟩ := hx
    exact ⟨cs, h1, tL_ok hone hV hL h h2⟩
  · cases h
theorem tT_ok {t u : Sl} : ∀ {n : Nat}, tT T t u n = true → ∀ d, d < n → tV T (lget t d) (lget u d) = true
  | n + 1, h, d, hd => by
    simp only [tT, Bool.and_eq_true] at h
    by_cases e : d = n
    · rw [e]
      exact h.1
    · exact tT_ok h.2 d (by omega)
theorem tH_ok {H : List (Nat × Blk)} : ∀ {G : List (Nat × Blk)}, tH T H G = true → ∀ j C, look G j = some C → ∃ i B, lkN T.f j = some i ∧ look H i = some B ∧ B.ty = C.ty ∧ tP T B.cells C.cells = true ∧ tM T B C = true
  | [], _, j, C, h => by cases h
  | x :: r, h, j, C, hC => by
    simp only [tH, Bool.and_eq_true] at h
    rw [look_cons] at hC
    by_cases e : x.1 = j
    · rw [if_pos e, Option.some.injEq] at hC
      subst hC
      subst e
      obtain ⟨h1, _⟩ := h
      split at h1
      · rename_i i hi
        split at h1
        · rename_i B hB
          simp only [Bool.and_eq_true] at h1
          exact ⟨i, B, hi, hB, Nat.eq_of_beq_eq_true h1.1, h1.2.1, h1.2.2⟩
        · cases h1
      · cases h1
    · rw [if_neg e] at hC
      exact tH_ok h.2 j C hC
theorem lkC_mem : ∀ {f : List (Nat × CS)} {j : Nat} {i : CS}, lkC f j = some i → (j, i) ∈ f
  | x :: r, j, i, h => by
    simp only [lkC] at h
    by_cases e : x.1 = j
    · subst e
      simp only [Nat.beq_refl, cond_true, Option.some.injEq] at h
      subst h
      simp
    · simp only [beq_no e, cond_false] at h
      exact List.mem_cons_of_mem _ (lkC_mem h)
theorem allLtC_ok {n : Nat} : ∀ {f : List (Nat × CS)}, allLtC n f = true → ∀ x ∈ f, x.1 < n
  | x :: r, h, y, hy => by
    simp only [allLtC, Bool.and_eq_true] at h
    cases hy with
    | head =>
      have := Nat.le_of_ble_eq_true (show Nat.ble (x.1 + 1) n = true from h.1)
      omega
    | tail _ hy => exact allLtC_ok h.2 y hy
theorem f2_len {α β : Type} {R : α → β → Prop} : ∀ {l : List α} {m : List β}, F2 R l m → l.length = m.length
  | [], [], _ => rfl
  | _ :: r, _ :: s, h => by simp [f2_len h.2]
  | [], _ :: _, h => h.elim
  | _ :: _, [], h => h.elim
theorem tell_all (hone : ∀ i, (V i).oneCell' = true) (hV : ∀ j, T.p j = true → V' j = V (T.src j)) (hL : ∀ j b, T.lit j = some b → V' j = .int .i64 b) {t u : Sl} {s r : St} {a : Act} {w : World} {ρ : Rho} (h : retOK T t s u r = true) (ht : TR V ρ t a) (hr : Rep V ρ s w) :
    TR V' (ρ.tell T) u a ∧ Rep V' (ρ.tell T) r w ∧ (∀ i, r.next ≤ i → (ρ.tell T).blk i = none) ∧ (∀ i, r.ncap ≤ i → (ρ.tell T).cap i = none) ∧ ∀ j b, (ρ.tell T).blk j = some b → ∃ i, lkN T.f j = some i ∧ ρ.blk i = some b := by
  unfold retOK at h
  simp only [Bool.and_eq_true] at h
  obtain ⟨h1, h2, h3, h4, h6, h7⟩ := h
  have h1 := Nat.eq_of_beq_eq_true h1
  have hlt : ∀ j i, lkN T.f j = some i → j < r.next := fun j i hj => allLt_ok h6 _ (lkN_mem hj)
  have hltc : ∀ j i, lkC T.fc j = some i → j < r.ncap := fun j i hj => allLtC_ok h7 _ (lkC_mem hj)
  have hblk : ∀ j b, (ρ.tell T).blk j = some b → ∃ i, lkN T.f j = some i ∧ ρ.blk i = some b := by
    intro j b hb
    have hb : (lkN T.f j).bind ρ.blk = some b := hb
    cases hj : lkN T.f j with
    | none => rw [hj] at hb; cases hb
    | some i => rw [hj] at hb; exact ⟨i, rfl, hb⟩
  refine ⟨⟨by rw [ht.z, h1], fun d => ?_, ht.df⟩, ⟨?_, ?_, ?_, ?_⟩, ?_, ?_, hblk⟩
  · by_cases hd : d < u.length
    · exact tV_ok hone hV hL (tT_ok h2 d hd) (ht.v d)
    · have := ht.v d
      rw [lget_far (by omega)] at this
      rw [lget_far hd]
      exact this
  · intro j C hC
    obtain ⟨i, B, k1, k2, k3, k4, k5⟩ := tH_ok h3 j C hC
    obtain ⟨b, cs, q1, q2, pre, post, q3, q4, q5⟩ := hr.h i B k2
    obtain ⟨pa, pb, e1, e2⟩ := tP_ok hone hV hL k4 q4
    refine ⟨b, cs, by show (lkN T.f j).bind ρ.blk = some b; rw [k1]; exact q1, by rw [← k3]; exact q2, pa, pb ++ post, by rw [q3, e1, List.append_assoc], e2, ?_⟩
    have l1 := f2_len q4
    have l2 := f2_len e2
    have l3 : cs.size = pre.length + post.length := by rw [← Array.length_toList, q3, List.length_append]
    have l4 : pre.length = pa.length + pb.length := by rw [e1, List.length_append]
    unfold tM at k5
    unfold MR at q5 ⊢
    split at k5
    · rename_i hm1 hm2
      rw [hm1] at q5
      rw [hm2]
      have := Nat.eq_of_beq_eq_true k5
      have q5 : post = [] := q5
      subst q5
      have : pb = [] := List.eq_nil_of_length_eq_zero (by omega)
      rw [this]
      rfl
    · rename_i d z hm1 hm2
      rw [hm1] at q5
      rw [hm2]
      have q5 : post = [] := q5
      subst q5
      simp only [Bool.and_eq_true, Bool.not_eq_true'] at k5
      obtain ⟨kz, k5⟩ := k5
      split at k5
      · rename_i m hm
        have hz : z ≠ 0 := by
          intro e
          subst e
          cases kz
        simp only [if_neg hz]
        refine ⟨m, ?_, ?_⟩
        · unfold Rho.tell
          simp only [hm]
        · have := Nat.eq_of_beq_eq_true k5
          rw [← this, l3, l1]
          simp
      · cases k5
    · rename_i c z d y hm1 hm2
      rw [hm1] at q5
      rw [hm2]
      simp only [Bool.and_eq_true] at k5
      have e3 := Nat.eq_of_beq_eq_true k5.1
      subst e3
      by_cases hz : z = 0
      · subst hz
        have k5 : (Nat.beq c d && (C.cells.isEmpty && (T.p d && Nat.beq (T.src d) d))) = true := k5.2
        simp only [Bool.and_eq_true] at k5
        have e4 := Nat.eq_of_beq_eq_true k5.1
        subst e4
        simp only [if_pos] at q5 ⊢
        obtain ⟨p1, p2⟩ := q5
        refine ⟨List.isEmpty_iff.1 k5.2.1, ?_⟩
        rw [hV c k5.2.2.1, Nat.eq_of_beq_eq_true k5.2.2.2]
        exact p2
      · simp only [beq_no hz, cond_false] at k5
        simp only [if_neg hz] at q5 ⊢
        obtain ⟨m, p1, p2⟩ := q5
        refine ⟨m, ?_, p2⟩
        have k5 := k5.2
        split at k5
        · rename_i k hk
          have e4 := Nat.eq_of_beq_eq_true k5
          subst e4
          unfold Rho.tell
          simp only [hk]
          exact p1
        · cases k5
    · cases k5
  · intro i j C D b hC hD hi hj
    obtain ⟨i', B, k1, k2, _⟩ := tH_ok h3 i C hC
    obtain ⟨j', B', k1', k2', _⟩ := tH_ok h3 j D hD
    obtain ⟨i2, e1, e2⟩ := hblk i b hi
    obtain ⟨j2, e3, e4⟩ := hblk j b hj
    rw [k1] at e1
    rw [k1'] at e3
    injection e1 with e1
    injection e3 with e3
    subst e1
    subst e3
    have := hr.inj i' j' B B' b k2 k2' e2 e4
    subst this
    exact noDup_inj h4 i j i' (lkN_mem k1) (lkN_mem k1')
  · intro j b hb
    obtain ⟨i, _, e⟩ := hblk j b hb
    exact hr.bnd i b e
  · intro j C hC
    obtain ⟨i, B, k1, _⟩ := tH_ok h3 j C hC
    exact hlt j i k1
  · intro j hj
    cases hb : (ρ.tell T).blk j with
    | none => rfl
    | some b =>
      obtain ⟨i, e, _⟩ := hblk j b hb
      have := hlt j i e
      omega
  · intro j hj
    cases hb : lkC T.fc j with
    | none =>
      unfold Rho.tell
      simp only [hb]
    | some i =>
      have := hltc j i hb
      omega
theorem hereK_tell (hone : ∀ i, (V i).oneCell' = true) (hV : ∀ j, T.p j = true → V' j = V (T.src j)) (hL : ∀ j b, T.lit j = some b → V' j = .int .i64 b) {DK : Nat → Prop} {wK : World} {base : Nat} {w0 : World} {t u : Sl} {s r : St} {a : Act} {w : World} (h : retOK T t s u r = true) (hh : HereK DK wK V base w0 t s a w) : HereK DK wK V' base w0 u r a w := by
  obtain ⟨ρ, ht, hr, g1, g2, g3, g4, g5, gk⟩ := hh
  obtain ⟨k1, k2, k3, k4, k5⟩ := tell_all hone hV hL h ht hr
  refine ⟨ρ.tell T, k1, k2, k3, k4, fun j b hb => ?_, g4, g5, gk.lt, gk.eq, fun b hb j e => ?_⟩
  · obtain ⟨i, _, e⟩ := k5 j b hb
    exact g3 i b e
  · obtain ⟨i, _, e⟩ := k5 j b e
    exact gk.no b hb i e
end
section
variable {P : Program} {V : Nat → Value} {E : Env} {DK : Nat → Prop} {wK : World}
theorem hereK_goes {base : Nat} {w0 w w' : World} {ρ ρ' : Rho} {t' : Sl} {s s' : St} {a' : Act} (hr : Rep V ρ s w) (h1 : ∀ i, s.next ≤ i → ρ.blk i = none) (h2 : ∀ i, s.ncap ≤ i → ρ.cap i = none) (h3 : ∀ i b, ρ.blk i = some b → base ≤ b) (h4 : RowKit.Below base w0 w) (h5 : base ≤ w.heap.size) (hk : KP DK wK ρ w)
    (hg : Goes V ρ s w s' w' ρ') (ht : TR V ρ' t' a') : HereK DK wK V base w0 t' s' a' w' := by
  obtain ⟨g1, g2, g3⟩ := hg
  refine ⟨ρ', ht, g1, fun i hi => ?_, fun i hi => ?_, fun i b hb => ?_, h4.trans ⟨g2.os, g2.tape, g2.out, g2.size, fun k hk => g2.fr k (by omega) (fun i _ _ e => ?_)⟩, Nat.le_trans h5 g2.size, hk.ext g2⟩
  · rw [g2.blk i (.inr hi)]
    exact h1 i (Nat.le_trans g2.n hi)
  · rw [g2.cap i (.inr hi)]
    exact h2 i (Nat.le_trans g2.c hi)
  · by_cases hi : i < s.next ∨ s'.next ≤ i
    · rw [g2.blk i hi] at hb
      exact h3 i b hb
    · rcases g2.new i b (by omega) (by omega) hb with h | ⟨j, _, _, h⟩
      · omega
      · exact h3 j b h
  · have := h3 i k e
    omega
theorem code_hereK (hE : EnvOK P V E) (hx : ExtOKK DK wK P V E) (m n : Nat) {c : Code} {t t' : Sl} {s s' : St} {e : AE} (h : codeA E (fnA E m) (drawA E (fnA E m)) n c t s = some (e, t', s')) {base : Nat} {w0 : World} {a : Act} {w : World} (hh : HereK DK wK V base w0 t s a w)
    {Q : Exit → Act → World → Prop} (hQ : ∀ a' w', HereK DK wK V base w0 t' s' a' w' → Q (AEx e) a' w') : c.wp P Q a w := by
  obtain ⟨ρ, ht, hr, h1, h2, h3, h4, h5, hk⟩ := hh
  have hc := fnA_okK hE hx m
  have hf := fnA_fn (E := E) hx.fn m
  have hu := fnA_up (E := E) hx.up m
  refine (code_okK hE hc hf hu (draw_okK hE hc hf hu) (drawA_up hu) n).1 c h ht hr ⟨fun i hi _ => h1 i hi, fun i hi _ => h2 i hi⟩ hk Q ?_
  intro ρ' a' w' hg ht'
  exact hQ a' w' (hereK_goes hr h1 h2 h3 h4 h5 hk hg ht')
theorem codeALK_ok (hE : EnvOK P V E) (hx : ExtOKK DK wK P V E) {base : Nat} {w0 : World} {Q : Exit → Act → World → Prop} {r : List Code} : ∀ (l : List Code) {t t' : Sl} {s s' : St}, codeAL E l t s = some (t', s') → ∀ {a : Act} {w : World}, HereK DK wK V base w0 t s a w → (∀ a' w', HereK DK wK V base w0 t' s' a' w' → wpL P Q r a' w') → wpL P Q (l ++ r) a w
  | [], t, t', s, s', h, a, w, hh, hQ => by
    simp only [codeAL, Option.some.injEq, Prod.mk.injEq] at h
    obtain ⟨rfl, rfl⟩ := h
    exact hQ a w hh
  | c :: l, t, t', s, s', h, a, w, hh, hQ => by
    simp only [codeAL] at h
    split at h
    · rename_i t1 s1 h1
      show wpL P Q (c :: (l ++ r)) a w
      exact code_hereK hE hx 30 1000 h1 hh (fun a' w' h' => codeALK_ok hE hx l h h' hQ)
    · cases h
/-- A slot that holds a number below m holds one of these. -/
theorem hereK_rng {base m d : Nat} {w0 : World} {t : Sl} {s : St} {a : Act} {w : World} (hd : lget t d = .one (.c (.rng m))) (hh : HereK DK wK V base w0 t s a w) : ∃ r : Nat, r < m ∧ HereK DK wK V base w0 (lset t d (.one (.c (.int .i64 r)))) s a w := by
  obtain ⟨ρ, ht, rest⟩ := hh
  have hv := ht.v d
  rw [hd] at hv
  obtain ⟨r, hr, hv⟩ := hv
  refine ⟨r, hr, ρ, ⟨by rw [ht.z, lset_length], fun e => ?_, ht.df⟩, rest⟩
  rw [lget_lset]
  by_cases hde : e = d ∧ d < t.length
  · rw [if_pos hde, hde.1]
    exact hv
  · rw [if_neg hde]
    exact ht.v e
end
end Ab
end Go.Proofs.Ytddiclnkfhldlaa
