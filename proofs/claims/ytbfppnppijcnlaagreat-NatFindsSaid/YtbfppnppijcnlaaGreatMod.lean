/-
  draw.Mod, as a contract for the interpreter; symbols that are integers.
  Conditions: none.
-/
import Derived.Test.YtbfppnppijcnlaaGreatEnv
import Derived.Test.YtbfppnppijcnlaaGreatChk
import Derived.WalkKit
import Derived.Below
namespace Go.Proofs.YtbfppnppijcnlaaGreat
namespace Ab
open Go.RowKit
set_option linter.unusedVariables false
noncomputable def modv (v n : Int) : Int := if v.tmod n < 0 then v.tmod n + n else v.tmod n
theorem modv_range (v n : Int) (hn : 0 < n) : 0 ≤ modv v n ∧ modv v n < n := by
  have h1 := Int.tmod_lt_of_pos v hn
  have h2 := Int.lt_tmod_of_pos v hn
  unfold modv
  split <;> omega
theorem mod_det (v n : Int) (w : World) (hv : -9223372036854775808 ≤ v ∧ v ≤ 9223372036854775807) (hn : 0 < n) (hn2 : n ≤ 1000000) :
    Calls Tryz.prog 18 #[.int .i64 v, .int .i64 n] w fun e w' => e = .returned (.int .i64 (modv v n)) ∧ w' = w := by
  have h1 := Int.tmod_lt_of_pos v hn
  have h2 : -n < v.tmod n := by
    have := Int.lt_tmod_of_pos v hn
    omega
  have hn0 : n ≠ 0 := by omega
  go_enter Tryz.func18, Tryz.ntmps18
  go_wp2_with fail
  · rename_i h
    exact bodyPost_ret (v := .int .i64 (v.tmod n + n)) (by simp [results, Tryz.results18, go_sem]) rfl ⟨by unfold modv; rw [if_pos (by first | omega | (simp at h; omega))], rfl⟩
  · rename_i h
    exact bodyPost_ret (v := .int .i64 (v.tmod n)) (by simp [results, Tryz.results18, go_sem]) rfl ⟨by unfold modv; rw [if_neg (by first | omega | (simp at h; omega))], rfl⟩
/-- The table of what Mod yields at symbols. -/
noncomputable def findM : List (Nat × Int × AC) → Nat → Int → Option AC
  | [], _, _ => none
  | x :: r, i, n => if x.1 = i ∧ x.2.1 = n then some x.2.2 else findM r i n
noncomputable def modE (tb : List (Nat × Int × AC)) : Nat → List AV → St → Option (AV × St) := fun f args s =>
  bif Nat.beq f 18 then
    match args with
    | [.one (.c (.sym i)), .one (.c (.int .i64 n))] => match findM tb i n with | some z => some (.one (.c z), s) | none => none
    | _ => none
  else none
theorem findM_mem : ∀ {tb : List (Nat × Int × AC)} {i : Nat} {n : Int} {z : AC}, findM tb i n = some z → (i, n, z) ∈ tb
  | [], i, n, z, h => by cases h
  | x :: r, i, n, z, h => by
    simp only [findM] at h
    split at h
    · rename_i h1
      injection h with h
      obtain ⟨a, b, c⟩ := x
      obtain ⟨h1, h2⟩ := h1
      simp only at h1 h2 h
      subst h1
      subst h2
      subst h
      simp
    · exact List.mem_cons_of_mem _ (findM_mem h)
theorem modE_ok {V : Nat → Value} {tab : BinOp → AC → AC → Option AC} {cvt : IntKind → AC → Option AC} {tb : List (Nat × Int × AC)}
    (h : AllP (fun x : Nat × Int × AC => ∃ a, V x.1 = .int .i64 a ∧ (-9223372036854775808 ≤ a ∧ a ≤ 9223372036854775807) ∧ 0 < x.2.1 ∧ x.2.1 ≤ 1000000 ∧ ∀ ρ, CR V ρ x.2.2 (.int .i64 (modv a x.2.1))) tb) : ExtOK Tryz.prog V (env tab cvt (modE tb)) := by
  have key : ∀ f args s v s', modE tb f args s = some (v, s') → f = 18 ∧ s' = s ∧ ∃ i n z, args = [.one (.c (.sym i)), .one (.c (.int .i64 n))] ∧ (i, n, z) ∈ tb ∧ v = .one (.c z) := by
    intro f args s v s' hm
    unfold modE at hm
    cases hb : Nat.beq f 18
    · simp [hb] at hm
    · simp only [hb, cond_true] at hm
      split at hm
      · rename_i i n
        split at hm
        · rename_i z hz
          simp only [Option.some.injEq, Prod.mk.injEq] at hm
          exact ⟨Nat.eq_of_beq_eq_true hb, hm.2.symm, i, n, z, rfl, findM_mem hz, hm.1.symm⟩
        · cases hm
      · cases hm
  refine ⟨?_, ?_, ?_⟩
  · intro f args s v s' hm ρ w vals hv hr hf
    obtain ⟨rfl, rfl, i, n, z, rfl, hz, rfl⟩ := key f args s v s' hm
    obtain ⟨a, h1, h2, h3, h4, h5⟩ := h.mem _ hz
    have hvals : vals = #[.int .i64 a, .int .i64 n] := by
      apply Array.ext'
      match hl : vals.toList, hv with
      | [x, y], hv =>
        have e1 : x = V i := hv.1
        have e2 : y = .int .i64 n := hv.2.1
        rw [e1, e2, h1]
    subst hvals
    refine (mod_det a n w h2 h3 h4).mono ?_
    rintro e w' ⟨rfl, rfl⟩
    exact ⟨_, ρ, rfl, Goes.refl V hr, h5 ρ⟩
  · intro f args s v s' hm
    obtain ⟨_, rfl, _⟩ := key f args s v s' hm
    exact ⟨Nat.le_refl _, Nat.le_refl _⟩
  · intro f args s r hm
    obtain ⟨rfl, _⟩ := key f args s r.1 r.2 hm
    exact ⟨Tryz.f18, by kernel_rfl⟩
end Ab
end Go.Proofs.YtbfppnppijcnlaaGreat
