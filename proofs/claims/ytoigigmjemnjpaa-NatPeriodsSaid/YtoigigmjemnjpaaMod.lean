/-
  draw.Mod, as a contract for the interpreter; symbols that are integers.
  Conditions: none.
-/
import Derived.Test.YtoigigmjemnjpaaEnv
import Derived.WalkKit
import Derived.Below
namespace Go.Proofs.Ytoigigmjemnjpaa
namespace Ab
open Go.RowKit
set_option linter.unusedVariables false
def modv (v n : Int) : Int := if v.tmod n < 0 then v.tmod n + n else v.tmod n
theorem modv_range (v n : Int) (hn : 0 < n) : 0 ≤ modv v n ∧ modv v n < n := by
  have h1 := Int.tmod_lt_of_pos v hn
  have h2 := Int.lt_tmod_of_pos v hn
  unfold modv
  split <;> omega
theorem mod_det (v n : Int) (w : World) (hv : -9223372036854775808 ≤ v ∧ v ≤ 9223372036854775807) (hn : 0 < n) (hn2 : n ≤ 1000000) :
    Calls Try.prog 20 #[.int .i64 v, .int .i64 n] w fun e w' => e = .returned (.int .i64 (modv v n)) ∧ w' = w := by
  have h1 := Int.tmod_lt_of_pos v hn
  have h2 : -n < v.tmod n := by
    have := Int.lt_tmod_of_pos v hn
    omega
  have hn0 : n ≠ 0 := by omega
  go_enter Try.func20, Try.ntmps20
  go_wp2_with fail
  · rename_i h
    exact bodyPost_ret (v := .int .i64 (v.tmod n + n)) (by simp [results, Try.results20, go_sem]) rfl ⟨by unfold modv; rw [if_pos (by first | omega | (simp at h; omega))], rfl⟩
  · rename_i h
    exact bodyPost_ret (v := .int .i64 (v.tmod n)) (by simp [results, Try.results20, go_sem]) rfl ⟨by unfold modv; rw [if_neg (by first | omega | (simp at h; omega))], rfl⟩
/-- The table of what Mod yields at symbols. -/
def findM : List (Nat × Int × AC) → Nat → Int → Option AC
  | [], _, _ => none
  | x :: r, i, n => if x.1 = i ∧ x.2.1 = n then some x.2.2 else findM r i n
def modE (tb : List (Nat × Int × AC)) : Nat → List AV → St → Option (AV × St) := fun f args s =>
  bif Nat.beq f 20 then
    match args with
    | [.one (.c (.sym i)), .one (.c (.int .i64 n))] => match findM tb i n with | some z => some (.one (.c z), s) | none => none
    | _ => none
  else none
theorem findM_mem : ∀ {tb : List (Nat × Int × AC)} {i : Nat} {n : Int} {z : AC}, findM tb i n = some z → (i, n, z) ∈ tb
  | [], i, n, z, h => by cases h
  | x :: r, i, n, z, h => by
    simp only [findM] at h
    split at h
    · rename_i h1
      injection h with h
      obtain ⟨a, b, c⟩ := x
      obtain ⟨h1, h2⟩ := h1
      simp only at h1 h2 h
      subst h1
      subst h2
      subst h
      simp
    · exact List.mem_cons_of_mem _ (findM_mem h)
theorem modE_ok {V : Nat → Value} {tab : BinOp → AC → AC → Option AC} {cvt : IntKind → AC → Option AC} {tb : List (Nat × Int × AC)}
    (h : AllP (fun x : Nat × Int × AC => ∃ a, V x.1 = .int .i64 a ∧ (-9223372036854775808 ≤ a ∧ a ≤ 9223372036854775807) ∧ 0 < x.2.1 ∧ x.2.1 ≤ 1000000 ∧ ∀ ρ, CR V ρ x.2.2 (.int .i64 (modv a x.2.1))) tb) : ExtOK Try.prog V (env tab cvt (modE tb)) := by
  have key : ∀ f args s v s', modE tb f args s = some (v, s') → f = 20 ∧ s' = s ∧ ∃ i n z, args = [.one (.c (.sym i)), .one (.c (.int .i64 n))] ∧ (i, n, z) ∈ tb ∧ v = .one (.c z) := by
    intro f args s v s' hm
    unfold modE at hm
    cases hb : Nat.beq f 20
    · simp [hb] at hm
    · simp only [hb, cond_true] at hm
      split at hm
      · rename_i i n
        split at hm
        · rename_i z hz
          simp only [Option.some.injEq, Prod.mk.injEq] at hm
          exact ⟨Nat.eq_of_beq_eq_true hb, hm.2.symm, i, n, z, rfl, findM_mem hz, hm.1.symm⟩
        · cases hm
      · cases hm
  refine ⟨?_, ?_, ?_⟩
  · intro f args s v s' hm ρ w vals hv hr hf
    obtain ⟨rfl, rfl, i, n, z, rfl, hz, rfl⟩ := key f args s v s' hm
    obtain ⟨a, h1, h2, h3, h4, h5⟩ := h.mem _ hz
    have hvals : vals = #[.int .i64 a, .int .i64 n] := by
      apply Array.ext'
      match hl : vals.toList, hv with
      | [x, y], hv =>
        have e1 : x = V i := hv.1
        have e2 : y = .int .i64 n := hv.2.1
        rw [e1, e2, h1]
    subst hvals
    refine (mod_det a n w h2 h3 h4).mono ?_
    rintro e w' ⟨rfl, rfl⟩
    exact ⟨_, ρ, rfl, Goes.refl V hr, h5 ρ⟩
  · intro f args s v s' hm
    obtain ⟨_, rfl, _⟩ := key f args s v s' hm
    exact ⟨Nat.le_refl _, Nat.le_refl _⟩
  · intro f args s r hm
    obtain ⟨rfl, _⟩ := key f args s r.1 r.2 hm
    exact ⟨Try.f20, by kernel_rfl⟩
/-- Symbols that are integers: a table of what operations on them yield. -/
def vInt (g : Nat → Int) : Nat → Value := fun i => .int .i64 (g i)
def acInt (g : Nat → Int) : AC → Option Int
  | .sym i => some (g i)
  | .int .i64 n => some n
  | _ => none
def sameC : AC → AC → Bool
  | .sym i, .sym j => Nat.beq i j
  | .int .i64 a, .int .i64 b => a == b
  | _, _ => false
theorem sameC_eq : ∀ {x y : AC}, sameC x y = true → x = y
  | .sym i, .sym j, h => by rw [Nat.eq_of_beq_eq_true h]
  | .int .i64 a, .int .i64 b, h => by
    have h : (a == b) = true := h
    rw [beq_iff_eq] at h
    rw [h]
abbrev Entry := BinOp × AC × AC × AC
def tabL : List Entry → BinOp → AC → AC → Option AC
  | [], _, _, _ => none
  | e :: r, op, x, y => bif decide (e.1 = op) && sameC e.2.1 x && sameC e.2.2.1 y then some e.2.2.2 else tabL r op x y
theorem tabL_mem : ∀ {l : List Entry} {op : BinOp} {x y z : AC}, tabL l op x y = some z → (op, x, y, z) ∈ l
  | [], op, x, y, z, h => by cases h
  | (a, b, c, d) :: r, op, x, y, z, h => by
    simp only [tabL] at h
    cases hb : (decide (a = op) && sameC b x && sameC c y)
    · simp only [hb, cond_false] at h
      exact List.mem_cons_of_mem _ (tabL_mem h)
    · simp only [hb, cond_true, Option.some.injEq] at h
      simp only [Bool.and_eq_true, decide_eq_true_eq] at hb
      obtain ⟨⟨h1, h2⟩, h3⟩ := hb
      rw [h1, sameC_eq h2, sameC_eq h3, h]
      simp
def cmpB : BinOp → Int → Int → Option Bool
  | .eql, a, b => some (a == b)
  | .neq, a, b => some (a != b)
  | .lss, a, b => some (decide (a < b))
  | .leq, a, b => some (decide (a ≤ b))
  | .gtr, a, b => some (decide (a > b))
  | .geq, a, b => some (decide (a ≥ b))
  | _, _, _ => none
def arI : BinOp → Int → Int → Option Int
  | .add, a, b => some (IntKind.i64.wrap (a + b))
  | .sub, a, b => some (IntKind.i64.wrap (a - b))
  | _, _, _ => none
theorem bin_cmp {op : BinOp} {a b : Int} {r : Bool} (h : cmpB op a b = some r) (xt : Nat) : binOp op xt (.int .i64 a) (.int .i64 b) = .pure (.bool r) := by
  cases op <;> simp only [cmpB, Option.some.injEq] at h <;> (try cases h; done) <;> subst h <;> rfl
theorem bin_ar {op : BinOp} {a b c : Int} (h : arI op a b = some c) (xt : Nat) : binOp op xt (.int .i64 a) (.int .i64 b) = .pure (.int .i64 c) := by
  cases op <;> simp only [arI, Option.some.injEq] at h <;> (try cases h; done) <;> subst h <;> rfl
/-- An entry that is true. -/
def EntryOK (g : Nat → Int) (e : Entry) : Prop := ∃ a b, acInt g e.2.1 = some a ∧ acInt g e.2.2.1 = some b ∧ ((∃ r, e.2.2.2 = .bool r ∧ cmpB e.1 a b = some r) ∨ (∃ c, acInt g e.2.2.2 = some c ∧ arI e.1 a b = some c))
theorem acInt_ok {g : Nat → Int} {ρ : Rho} : ∀ {x : AC} {a : Int} {u : Value}, acInt g x = some a → CR (vInt g) ρ x u → u = .int .i64 a
  | .sym i, a, u, h, hu => by
    simp only [acInt, Option.some.injEq] at h
    subst h
    exact hu
  | .int .i64 n, a, u, h, hu => by
    simp only [acInt, Option.some.injEq] at h
    subst h
    exact hu
theorem acInt_cr {g : Nat → Int} {ρ : Rho} : ∀ {x : AC} {a : Int}, acInt g x = some a → CR (vInt g) ρ x (.int .i64 a)
  | .sym i, a, h => by
    simp only [acInt, Option.some.injEq] at h
    subst h
    rfl
  | .int .i64 n, a, h => by
    simp only [acInt, Option.some.injEq] at h
    subst h
    rfl
theorem tabL_ok {g : Nat → Int} {l : List Entry} (h : AllP (EntryOK g) l) : ∀ op x y z, tabL l op x y = some z → ∀ ρ u v, CR (vInt g) ρ x u → CR (vInt g) ρ y v → ∃ k n k' n' c, u = .int k n ∧ v = .int k' n' ∧ CR (vInt g) ρ z c ∧ ∀ xt, binOp op xt u v = .pure c := by
  intro op x y z hz ρ u v hu hv
  obtain ⟨a, b, h1, h2, h3⟩ := h.mem _ (tabL_mem hz)
  have e1 := acInt_ok h1 hu
  have e2 := acInt_ok h2 hv
  subst e1
  subst e2
  rcases h3 with ⟨r, rfl, h4⟩ | ⟨c, h4, h5⟩
  · exact ⟨_, _, _, _, .bool r, rfl, rfl, rfl, bin_cmp h4⟩
  · exact ⟨_, _, _, _, .int .i64 c, rfl, rfl, acInt_cr h4, bin_ar h5⟩
theorem noCvt_ok {V : Nat → Value} : ∀ k i z, noCvt k (.sym i) = some z → ∀ ρ, ∃ k' n, V i = .int k' n ∧ CR V ρ z (.int k (k.wrap n)) := fun k i z h => by cases h
theorem ent_cmp {g : Nat → Int} {op : BinOp} {x y : AC} {r : Bool} {a b : Int} (h1 : acInt g x = some a) (h2 : acInt g y = some b) (h : cmpB op a b = some r) : EntryOK g (op, x, y, .bool r) := ⟨a, b, h1, h2, .inl ⟨r, rfl, h⟩⟩
theorem ent_ar {g : Nat → Int} {op : BinOp} {x y z : AC} {a b c : Int} (h1 : acInt g x = some a) (h2 : acInt g y = some b) (h3 : acInt g z = some c) (h : arI op a b = some c) : EntryOK g (op, x, y, z) := ⟨a, b, h1, h2, .inr ⟨c, h3, h⟩⟩
/-- A law over symbols: the environment, and the contracts of Mod. -/
theorem sym_env {g : Nat → Int} {l : List Entry} {tb : List (Nat × Int × AC)} (h : AllP (EntryOK g) l) : EnvOK Try.prog (vInt g) (env (tabL l) noCvt (modE tb)) := env_ok (tabL_ok h) noCvt_ok (fun _ => rfl)
theorem sym_ext {g : Nat → Int} {l : List Entry} {tb : List (Nat × Int × AC)} (h : AllP (fun x : Nat × Int × AC => (-9223372036854775808 ≤ g x.1 ∧ g x.1 ≤ 9223372036854775807) ∧ 0 < x.2.1 ∧ x.2.1 ≤ 1000000 ∧ acInt g x.2.2 = some (modv (g x.1) x.2.1)) tb) : ExtOK Try.prog (vInt g) (env (tabL l) noCvt (modE tb)) := by
  refine modE_ok ?_
  induction tb with
  | nil => trivial
  | cons x tb ih => exact ⟨⟨g x.1, rfl, h.1.1, h.1.2.1, h.1.2.2.1, fun ρ => acInt_cr h.1.2.2.2⟩, ih h.2⟩
end Ab
end Go.Proofs.Ytoigigmjemnjpaa
