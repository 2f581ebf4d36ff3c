/-
  Terms in memory, with the blocks that they lie in.
  Conditions: none.
-/
import Derived.Test.YtddiclnkfhldlaaName
import Derived.OwnWalk
import Derived.Laws.AppendOwn
import Derived.Deep.RegionHeld3
import Derived.Deep.DrawnRows
namespace Go.Proofs.Ytddiclnkfhldlaa
open Go.RowKit Go.Sort
set_option linter.unusedVariables false
/-- The arguments of the term t lie at A, in a slice of capacity c, all in blocks of S. -/
inductive TrS (S : Nat → Prop) (w : World) : Tm → Option Addr → Nat → Prop
  | mk {o v : Int} {l : List Tm} {A : Option Addr} {c : Nat} (AA : Nat → Option Addr) (CC : Nat → Nat) (ho : fits o) (hv : fits v) (hl : l.length ≤ c) (hc : c ≤ maxLen)
      (hcell : ∀ (i : Nat) (h : i < l.length), ∃ g k, A = some ⟨g, k, none⟩ ∧ S g ∧ w.cell? ⟨g, k + i * 3, none⟩ = some (.int .i64 (l[i]).op) ∧ w.cell? ⟨g, k + i * 3 + 1, none⟩ = some (.int .i64 (l[i]).val) ∧ w.cell? ⟨g, k + i * 3 + 2, none⟩ = some (.slice (AA i) (l[i]).args.length (CC i)))
      (hrec : ∀ (i : Nat) (h : i < l.length), TrS S w l[i] (AA i) (CC i)) : TrS S w (.mk o v l) A c
section
variable {S S' : Nat → Prop} {w w' : World} {t u : Tm} {A B : Option Addr} {c d : Nat} {o v o' v' : Int} {l : List Tm}
theorem TrS.tr (h : TrS S w t A c) : Tr w t A c := by
  induction h with
  | mk AA CC ho hv hl hc hcell hrec ih =>
    refine .mk AA CC ho hv hl hc (fun i hi => ?_) ih
    obtain ⟨g, k, hA, _, h⟩ := hcell i hi
    exact ⟨g, k, hA, h⟩
theorem TrS.mono (h : TrS S w t A c) (hs : ∀ g, S g → S' g) : TrS S' w t A c := by
  induction h with
  | mk AA CC ho hv hl hc hcell hrec ih =>
    refine .mk AA CC ho hv hl hc (fun i hi => ?_) ih
    obtain ⟨g, k, hA, hg, h⟩ := hcell i hi
    exact ⟨g, k, hA, hs g hg, h⟩
theorem TrS.lt (h : TrS S w t A c) : TrS (fun g => S g ∧ g < w.heap.size) w t A c := by
  induction h with
  | mk AA CC ho hv hl hc hcell hrec ih =>
    refine .mk AA CC ho hv hl hc (fun i hi => ?_) ih
    obtain ⟨g, k, hA, hg, h⟩ := hcell i hi
    exact ⟨g, k, hA, ⟨hg, World.block_lt_of_cell? w ⟨g, _, none⟩ h.1⟩, h⟩
theorem TrS.keep (h : TrS S w t A c) (hb : ∀ g, S g → g < w.heap.size → w'.heap[g]? = w.heap[g]?) : TrS S w' t A c := by
  induction h with
  | mk AA CC ho hv hl hc hcell hrec ih =>
    refine .mk AA CC ho hv hl hc (fun i hi => ?_) ih
    obtain ⟨g, k, hA, hs, h0, h1, h2⟩ := hcell i hi
    have hg := hb g hs (World.block_lt_of_cell? w ⟨g, _, none⟩ h0)
    exact ⟨g, k, hA, hs, (World.cell?_of_block (a := ⟨g, _, none⟩) hg).trans h0, (World.cell?_of_block (a := ⟨g, _, none⟩) hg).trans h1, (World.cell?_of_block (a := ⟨g, _, none⟩) hg).trans h2⟩
theorem TrS.bel (h : TrS S w t A c) (hb : Below w.heap.size w w') : TrS S w' t A c := h.keep fun g _ hg => hb.block g hg
theorem TrS.alloc (h : TrS S w t A c) (o : Obj) : TrS S (w.alloc o) t A c := h.keep fun g _ hg => Below.heap_alloc w o g hg
theorem TrS.drewN (h : TrS S w t A c) (n : Nat) : TrS S (w.drewN n) t A c := h.keep fun _ _ _ => rfl
theorem TrS.only {gc : Nat} (h : TrS S w t A c) (hg : w.grownBy w' (some gc)) (hs : ¬ S gc) : TrS S w' t A c := h.keep fun g hS hlt => hg.block g hlt (by rintro e; injection e with e; subst e; exact hs hS)
theorem TrS.ofits (h : TrS S w t A c) : fits t.op ∧ fits t.val ∧ t.args.length ≤ c ∧ c ≤ maxLen := h.tr.ofits
theorem TrS.at (h : TrS S w t A c) (i : Nat) (hi : i < t.args.length) : ∃ g k AA CC, A = some ⟨g, k, none⟩ ∧ S g ∧ w.cell? ⟨g, k + i * 3, none⟩ = some (.int .i64 (t.args[i]).op) ∧ w.cell? ⟨g, k + i * 3 + 1, none⟩ = some (.int .i64 (t.args[i]).val) ∧ w.cell? ⟨g, k + i * 3 + 2, none⟩ = some (.slice AA (t.args[i]).args.length CC) ∧ TrS S w (t.args[i]) AA CC := by
  cases h with
  | mk AA CC ho hv hl hc hcell hrec =>
    obtain ⟨g, k, hA, h0, h1, h2, h3⟩ := hcell i hi
    exact ⟨g, k, AA i, CC i, hA, h0, h1, h2, h3, hrec i hi⟩
theorem TrS.leaf (S : Nat → Prop) (w : World) (o v : Int) (A : Option Addr) (c : Nat) (ho : fits o) (hv : fits v) (hc : c ≤ maxLen) : TrS S w (.mk o v []) A c :=
  .mk (fun _ => none) (fun _ => 0) ho hv (Nat.zero_le _) hc (fun i hi => absurd hi (by simp)) (fun i hi => absurd hi (by simp))
theorem Tr.sup (h : Tr w t A c) : TrS (fun g => g < w.heap.size) w t A c := by
  induction h with
  | mk AA CC ho hv hl hc hcell hrec ih =>
    refine .mk AA CC ho hv hl hc (fun i hi => ?_) ih
    obtain ⟨g, k, hA, h⟩ := hcell i hi
    exact ⟨g, k, hA, World.block_lt_of_cell? w ⟨g, _, none⟩ h.1, h⟩
theorem TrS.re (h : TrS S w (.mk o v l) A c) (ho : fits o') (hv : fits v') : TrS S w (.mk o' v' l) A c := by
  cases h with
  | mk AA CC _ _ hl hc hcell hrec => exact .mk AA CC ho hv hl hc hcell hrec
theorem TrS.one {g : Nat} {ty : TypeId} (hb : Blk w g ty #[.int .i64 t.op, .int .i64 t.val, .slice A t.args.length c]) (hg : S g) (h : TrS S w t A c) (ho : fits o) (hv : fits v) :
    TrS S w (.mk o v [t]) (some ⟨g, 0, none⟩) 1 := by
  refine .mk (fun _ => A) (fun _ => c) ho hv (by simp) (by unfold maxLen; omega) (fun i hi => ?_) (fun i hi => ?_)
  · obtain rfl : i = 0 := by simp at hi; omega
    exact ⟨g, 0, rfl, hg, hb.cell 0, hb.cell 1, hb.cell 2⟩
  · obtain rfl : i = 0 := by simp at hi; omega
    exact h
theorem TrS.two {g : Nat} {ty : TypeId} (hb : Blk w g ty #[.int .i64 t.op, .int .i64 t.val, .slice A t.args.length c, .int .i64 u.op, .int .i64 u.val, .slice B u.args.length d]) (hg : S g) (h : TrS S w t A c) (k : TrS S w u B d) (ho : fits o) (hv : fits v) :
    TrS S w (.mk o v [t, u]) (some ⟨g, 0, none⟩) 2 := by
  refine .mk (fun i => if i = 0 then A else B) (fun i => if i = 0 then c else d) ho hv (by simp) (by unfold maxLen; omega) (fun i hi => ?_) (fun i hi => ?_)
  · match i, hi with
    | 0, _ => exact ⟨g, 0, rfl, hg, hb.cell 0, hb.cell 1, hb.cell 2⟩
    | 1, _ => exact ⟨g, 0, rfl, hg, hb.cell 3, hb.cell 4, hb.cell 5⟩
  · match i, hi with
    | 0, _ => exact h
    | 1, _ => exact k
end
theorem f0 : fits 0 := by unfold fits; omega
theorem fn {n : Int} (h0 : 0 ≤ n) (h1 : n ≤ 9000000000000000000) : fits n := by unfold fits; omega
/-- Old blocks, or new ones. -/
def SN (S : Nat → Prop) (w : World) (g : Nat) : Prop := S g ∨ w.heap.size ≤ g
theorem TrS.sn {S : Nat → Prop} {w w0 : World} {t : Tm} {A : Option Addr} {c : Nat} (h : TrS S w t A c) : TrS (SN S w0) w t A c := h.mono fun _ k => .inl k
/-- A call that makes a term. -/
def MkPost (S : Nat → Prop) (w : World) (t : Tm) (e : Ending) (w' : World) : Prop :=
  ∃ A c, e = .returned (.agg #[.int .i64 t.op, .int .i64 t.val, .slice A t.args.length c]) ∧ TrS (SN S w) w' t A c ∧ Below w.heap.size w w'
end Go.Proofs.Ytddiclnkfhldlaa
namespace Go.Proofs.Ytddiclnkfhldlaa
open Go.RowKit Go.Sort
set_option linter.unusedVariables false
theorem rnumber_any (S : Nat → Prop) (n : Int) (w : World) (hn : fits n) :
    Calls Try.prog 51 #[.int .i64 n] w (MkPost S w (.mk 1 n [])) := by
  go_enter Try.func51, Try.ntmps51
  go_wp2_with fail
  exact bodyPost_ret (v := .agg #[.int .i64 1, .int .i64 n, .slice none 0 0]) (by simp [results, Try.results51, go_sem]) rfl ⟨none, 0, rfl, TrS.leaf _ _ _ _ _ _ (fn (by omega) (by omega)) hn (Nat.zero_le _), (Below.refl _ _).alloc (Nat.le_refl _) _⟩
theorem rpublic_any (S : Nat → Prop) (t : Tm) (w : World) (A : Option Addr) (c : Nat) (ht : TrS S w t A c) :
    Calls Try.prog 54 #[.agg #[.int .i64 t.op, .int .i64 t.val, .slice A t.args.length c]] w (MkPost S w (.mk 4 0 [t])) := by
  go_enter Try.func54, Try.ntmps54
  go_wp2_with fail
  have hb := heap_alloc_new ((w.alloc (Obj.cells #[.int .i64 t.op, .int .i64 t.val, .slice A t.args.length c] 30)).alloc (Obj.cells #[.int .i64 4, .int .i64 0, .slice (some ⟨w.heap.size + 1 + 1, 0, none⟩) 1 1] 30)) (Obj.cells #[.int .i64 t.op, .int .i64 t.val, .slice A t.args.length c] 30)
  simp only [World.size_alloc] at hb
  exact bodyPost_ret (v := .agg #[.int .i64 4, .int .i64 0, .slice (some ⟨w.heap.size + 1 + 1, 0, none⟩) 1 1]) (by simp [results, Try.results54, go_sem]) rfl ⟨_, 1, rfl, TrS.one hb (.inr (by omega)) (((ht.sn.alloc _).alloc _).alloc _) (fn (by omega) (by omega)) f0, (((Below.refl _ _).alloc (Nat.le_refl _) _).alloc (by simp) _).alloc (by simp; omega) _⟩
theorem rsign_any (S : Nat → Prop) (n : Int) (hn : fits n) (t : Tm) (w : World) (A : Option Addr) (c : Nat) (ht : TrS S w t A c) :
    Calls Try.prog 57 #[.int .i64 n, .agg #[.int .i64 t.op, .int .i64 t.val, .slice A t.args.length c]] w (MkPost S w (.mk 8 n [t])) := by
  go_enter Try.func57, Try.ntmps57
  go_wp2_with fail
  have hb := heap_alloc_new ((w.alloc (Obj.cells #[.int .i64 t.op, .int .i64 t.val, .slice A t.args.length c] 30)).alloc (Obj.cells #[.int .i64 8, .int .i64 n, .slice (some ⟨w.heap.size + 1 + 1, 0, none⟩) 1 1] 30)) (Obj.cells #[.int .i64 t.op, .int .i64 t.val, .slice A t.args.length c] 30)
  simp only [World.size_alloc] at hb
  exact bodyPost_ret (v := .agg #[.int .i64 8, .int .i64 n, .slice (some ⟨w.heap.size + 1 + 1, 0, none⟩) 1 1]) (by simp [results, Try.results57, go_sem]) rfl ⟨_, 1, rfl, TrS.one hb (.inr (by omega)) (((ht.sn.alloc _).alloc _).alloc _) (fn (by omega) (by omega)) hn, (((Below.refl _ _).alloc (Nat.le_refl _) _).alloc (by simp) _).alloc (by simp; omega) _⟩
theorem rseal_any (S : Nat → Prop) (t u : Tm) (w : World) (A B : Option Addr) (c d : Nat) (ht : TrS S w t A c) (hu : TrS S w u B d) :
    Calls Try.prog 56 #[.agg #[.int .i64 t.op, .int .i64 t.val, .slice A t.args.length c], .agg #[.int .i64 u.op, .int .i64 u.val, .slice B u.args.length d]] w (MkPost S w (.mk 7 0 [t, u])) := by
  go_enter Try.func56, Try.ntmps56
  go_wp2_with fail
  have hb := heap_alloc_new (((w.alloc (Obj.cells #[.int .i64 t.op, .int .i64 t.val, .slice A t.args.length c] 30)).alloc (Obj.cells #[.int .i64 u.op, .int .i64 u.val, .slice B u.args.length d] 30)).alloc (Obj.cells #[.int .i64 7, .int .i64 0, .slice (some ⟨w.heap.size + 1 + 1 + 1, 0, none⟩) 2 2] 30)) (Obj.cells #[.int .i64 t.op, .int .i64 t.val, .slice A t.args.length c, .int .i64 u.op, .int .i64 u.val, .slice B u.args.length d] 30)
  simp only [World.size_alloc] at hb
  exact bodyPost_ret (v := .agg #[.int .i64 7, .int .i64 0, .slice (some ⟨w.heap.size + 1 + 1 + 1, 0, none⟩) 2 2]) (by simp [results, Try.results56, go_sem]) rfl ⟨_, 2, rfl, TrS.two hb (.inr (by omega)) ((((ht.sn.alloc _).alloc _).alloc _).alloc _) ((((hu.sn.alloc _).alloc _).alloc _).alloc _) (fn (by omega) (by omega)) f0, ((((Below.refl _ _).alloc (Nat.le_refl _) _).alloc (by simp) _).alloc (by simp; omega) _).alloc (by simp; omega) _⟩
/-! ### Lists of terms, flat -/
/-- The cells of the terms of a list, one behind the other. -/
inductive Flat (S : Nat → Prop) (w : World) : List Tm → List Value → Prop
  | nil : Flat S w [] []
  | cons {t : Tm} {ts : List Tm} {xs : List Value} {A : Option Addr} {c : Nat} (h : TrS S w t A c) (k : Flat S w ts xs) : Flat S w (t :: ts) (.int .i64 t.op :: .int .i64 t.val :: .slice A t.args.length c :: xs)
section
variable {S : Nat → Prop} {w w' : World} {ts us : List Tm} {xs ys : List Value}
theorem Flat.len (h : Flat S w ts xs) : xs.length = ts.length * 3 := by
  induction h with
  | nil => rfl
  | cons _ _ ih => simp [ih]; omega
theorem Flat.map (h : Flat S w ts xs) (f : ∀ t A c, TrS S w t A c → TrS S w' t A c) : Flat S w' ts xs := by
  induction h with
  | nil => exact .nil
  | cons h k ih => exact .cons (f _ _ _ h) ih
theorem Flat.bel (h : Flat S w ts xs) (hb : Below w.heap.size w w') : Flat S w' ts xs := h.map fun _ _ _ k => k.bel hb
theorem Flat.append (h : Flat S w ts xs) (k : Flat S w us ys) : Flat S w (ts ++ us) (xs ++ ys) := by
  induction h with
  | nil => exact k
  | cons h _ ih => exact .cons h ih
theorem Flat.one' (h : Flat S w ts xs) : ∀ u ∈ xs, u.oneCell' = true := by
  induction h with
  | nil => intro u hu; cases hu
  | cons h k ih =>
    intro u hu
    rcases List.mem_cons.1 hu with rfl | hu
    · rfl
    rcases List.mem_cons.1 hu with rfl | hu
    · rfl
    rcases List.mem_cons.1 hu with rfl | hu
    · rfl
    exact ih u hu
theorem Flat.at (h : Flat S w ts xs) : ∀ (i : Nat) (hi : i < ts.length), ∃ A c, TrS S w (ts[i]) A c ∧ xs[i * 3]? = some (.int .i64 (ts[i]).op) ∧ xs[i * 3 + 1]? = some (.int .i64 (ts[i]).val) ∧ xs[i * 3 + 2]? = some (.slice A (ts[i]).args.length c) := by
  induction h with
  | nil => intro i hi; simp at hi
  | cons h k ih =>
    intro i hi
    match i with
    | 0 => exact ⟨_, _, h, rfl, rfl, rfl⟩
    | i + 1 =>
      obtain ⟨A, c, h0, h1, h2, h3⟩ := ih i (by simpa using hi)
      have e : (i + 1) * 3 = i * 3 + 3 := by omega
      refine ⟨A, c, by simpa using h0, ?_, ?_, ?_⟩ <;> (rw [e]; simpa using ‹_›)
end
/-- A slice of terms that the call has made holds them. -/
theorem TrS.of_own {S : Nat → Prop} {w : World} {base : Nat} {ts : List Tm} {xs : List Value} {o v : Int} {A : Option Addr} {c : Nat} (h : w.ownsRow base 30 3 (.slice A ts.length c) ts.length xs) (hf : Flat S w ts xs) (ho : fits o) (hv : fits v) :
    TrS (fun g => S g ∨ base ≤ g) w (.mk o v ts) A c := by
  rcases h.2 with ⟨h0, h1⟩ | ⟨g, cap, cur, hv', hb, hg, hn, hm, hs, ht⟩
  · injection h0 with e1 e2 e3
    subst e1; subst e3
    obtain rfl : ts = [] := List.length_eq_zero_iff.1 h1
    exact TrS.leaf _ w o v none 0 ho hv (Nat.zero_le _)
  · injection hv' with e1 e2 e3
    subst e1; subst e3
    have hcell : ∀ j u, xs[j]? = some u → w.cell? ⟨g, j, none⟩ = some u := by
      intro j u hj
      rw [← ht, List.getElem?_take] at hj
      split at hj
      · rw [cell_of_row w g j cur _ (0, 0) hg]
        simpa using hj
      · cases hj
    refine .mk (fun i => if hi : i < ts.length then (hf.at i hi).choose else none) (fun i => if hi : i < ts.length then (hf.at i hi).choose_spec.choose else 0) ho hv hn hm (fun i hi => ?_) (fun i hi => ?_)
    · obtain ⟨h0, h1, h2, h3⟩ := (hf.at i hi).choose_spec.choose_spec
      rw [dif_pos hi, dif_pos hi]
      exact ⟨g, 0, rfl, .inr hb, by rw [Nat.zero_add]; exact hcell _ _ h1, by rw [Nat.zero_add]; exact hcell _ _ h2, by rw [Nat.zero_add]; exact hcell _ _ h3⟩
    · obtain ⟨h0, h1, h2, h3⟩ := (hf.at i hi).choose_spec.choose_spec
      rw [dif_pos hi, dif_pos hi]
      exact h0.mono fun _ k => .inl k
/-- What lies in a slice of terms, flat. -/
theorem TrS.flat {S : Nat → Prop} {w : World} {o v : Int} {A : Option Addr} {c : Nat} : ∀ {ts : List Tm}, TrS S w (.mk o v ts) A c → ∃ xs, Flat S w ts xs ∧ ∀ j u, xs[j]? = some u → ∃ g k, A = some ⟨g, k, none⟩ ∧ w.cell? ⟨g, k + j, none⟩ = some u := by
  intro ts h
  have key : ∀ (n : Nat), n ≤ ts.length → ∃ xs, Flat S w (ts.drop n) xs ∧ ∀ j u, xs[j]? = some u → ∃ g k, A = some ⟨g, k, none⟩ ∧ w.cell? ⟨g, k + (n * 3 + j), none⟩ = some u := by
    intro n hn
    obtain ⟨m, hm⟩ : ∃ m, ts.length = n + m := ⟨ts.length - n, by omega⟩
    induction m generalizing n with
    | zero =>
      rw [List.drop_eq_nil_of_le (by omega)]
      exact ⟨[], .nil, fun j u hj => by simp at hj⟩
    | succ m ih =>
      obtain ⟨xs, hx, hc⟩ := ih (n + 1) (by omega) (by omega)
      have hlt : n < ts.length := by omega
      obtain ⟨g, k, AA, CC, hA, _, h0, h1, h2, h3⟩ := h.at n hlt
      rw [List.drop_eq_getElem_cons hlt]
      refine ⟨_, .cons h3 hx, fun j u hj => ?_⟩
      match j with
      | 0 => injection hj with hj; subst hj; exact ⟨g, k, hA, by rw [Nat.add_zero]; exact h0⟩
      | 1 => injection hj with hj; subst hj; exact ⟨g, k, hA, by rw [← Nat.add_assoc]; exact h1⟩
      | 2 => injection hj with hj; subst hj; exact ⟨g, k, hA, by rw [← Nat.add_assoc]; exact h2⟩
      | j + 3 =>
        obtain ⟨g', k', hA', hc'⟩ := hc j u (by simpa using hj)
        refine ⟨g', k', hA', ?_⟩
        have e : n * 3 + (j + 3) = (n + 1) * 3 + j := by omega
        rw [e]
        exact hc'
  obtain ⟨xs, h1, h2⟩ := key 0 (Nat.zero_le _)
  refine ⟨xs, h1, fun j u hj => ?_⟩
  obtain ⟨g, k, hA, hc⟩ := h2 j u hj
  exact ⟨g, k, hA, by simpa using hc⟩
theorem term_info : (Try.prog.info? 30).map (fun i => (i.zero, i.size, i.bytes)) = some (some (.agg #[.int .i64 0, .int .i64 0, .slice none 0 0]), 3, 40) := by kernel_rfl
theorem own_same {w w' : World} {base e size n : Nat} {v : Value} {xs : List Value} (h : w.ownsRow base e size v n xs) (hs : ∀ g, base ≤ g → g < w.heap.size → w'.heap[g]? = w.heap[g]?) : w'.ownsRow base e size v n xs := by
  refine ⟨h.1, ?_⟩
  rcases h.2 with h0 | ⟨g, cap, cur, hv, hb, hg, h1⟩
  · exact .inl h0
  · exact .inr ⟨g, cap, cur, hv, hb, (hs g hb (Array.getElem?_eq_some_iff.1 hg).1).trans hg, h1⟩
theorem own_put {w : World} {base e size n : Nat} {v : Value} {xs : List Value} (h : w.ownsRow base e size v n xs) {p : Addr} (hp : p.block < base) (u : Value) : (w.setCell p u).ownsRow base e size v n xs :=
  own_same h fun g hg _ => Below.heap_setCell w p u g (by omega)
theorem Blk.grown_none {w w' : World} {g : Nat} {t : TypeId} {cs : Array Value} (h : Blk w g t cs) (hg : w.grownBy w' (Value.ownBlock (.slice none 0 0))) : Blk w' g t cs := h.grown hg (by simp [Value.ownBlock])
theorem add_at (g k j : Nat) : (⟨g, k, none⟩ : Addr).add j = ⟨g, k + j, none⟩ := by
  unfold Addr.add
  split
  · rename_i h; subst h; rfl
  · rfl
theorem rlist_any (S : Nat → Prop) (ts : List Tm) (w : World) (A : Option Addr) (c : Nat) (ht : TrS S w (.mk 0 0 ts) A c) (hts : ts.length ≤ 1000000) :
    Calls Try.prog 53 #[.slice A ts.length c] w (MkPost S w (.mk 3 0 ts)) := by
  obtain ⟨i0, hi0, hz0, hz1, hz2⟩ := info_parts term_info
  have hfit := ht.ofits
  simp only [Tm.args_mk] at hfit
  have hcm := hfit.2.2.2
  have hcl := hfit.2.2.1
  clear hfit
  unfold maxLen at hcm
  rcases A with _ | ad
  · obtain rfl : ts = [] := by
      rcases ts with _ | ⟨t, ts⟩
      · rfl
      · obtain ⟨g, k, _, _, hA, _, _⟩ := ht.at 0 (by simp)
        cases hA
    clear ht
    go_enter Try.func53, Try.ntmps53
    go_wp2_with (at_builtin; refine wpList_append_own_none _ rfl (.const (.slice none 0 0)) (.tmp 3) 28 rfl (w.heap.size + 1) 30 i0 3 Try.underlying28 hi0 hz1 (.slice none 0 0) 0 [] rfl (World.ownsRow_nil _ _ _ _) _ rfl ?_)
    exact bodyPost_ret (v := .agg #[.int .i64 3, .int .i64 0, .slice none 0 0]) (by simp [results, Try.results53, go_sem]) rfl ⟨none, 0, rfl, TrS.leaf _ _ _ _ _ _ (fn (by omega) (by omega)) f0 (Nat.zero_le _), (Below.refl _ _).alloc (Nat.le_refl _) _⟩
  · obtain ⟨xs, hx, hc⟩ := ht.flat
    have hz := heap_alloc_new w (Obj.cells #[.int .i64 0, .int .i64 0, .slice none 0 0] 30)
    have hown0 := World.ownsRow_nil (w.alloc (Obj.cells #[.int .i64 0, .int .i64 0, .slice none 0 0] 30)) (w.heap.size + 1) 30 3
    have hlen := hx.len
    have hone := hx.one'
    have hnews : ∀ j u, xs[j]? = some u → (w.alloc (Obj.cells #[.int .i64 0, .int .i64 0, .slice none 0 0] 30)).cell? (ad.add j) = some u := by
      intro j u hj
      obtain ⟨g, k, hA, hcc⟩ := hc j u hj
      cases hA
      rw [add_at]
      exact cell_alloc hcc
    have h63 : 0 + ts.length ≤ maxLen := by unfold maxLen; omega
    have hbytes : (0 + ts.length) * 40 ≤ 140737488355328 := by omega
    have hbase : w.heap.size + 1 ≤ (w.alloc (Obj.cells #[.int .i64 0, .int .i64 0, .slice none 0 0] 30)).heap.size := by simp
    have HX := Lib.hid hx
    have HZ := Lib.hid hz
    clear hx hc hz ht
    go_enter Try.func53, Try.ntmps53
    go_wp2_with (at_builtin; refine wpList_append_own _ rfl (.const (.slice none 0 0)) (.tmp 3) 28 rfl (w.heap.size + 1) 30 i0 (.agg #[.int .i64 0, .int .i64 0, .slice none 0 0]) 3 40 Try.underlying28 hi0 hz0 hz1 hz2 rfl (by decide) (.slice none 0 0) 0 [] rfl hown0 ad ts.length c xs rfl hlen hnews hone h63 hbytes hbase ?_; intro v1 w1 hown1 hg1 _; simp only [Nat.zero_add, List.nil_append] at hown1; obtain ⟨A1, c1, hv1⟩ := own_form hown1; subst hv1; have HO := Lib.hid hown1; have HG := Lib.hid hg1; have z1 := Blk.grown_none HZ.out hg1; have c0 : w1.cell? ⟨w.heap.size, 0, none⟩ = some (.int .i64 0) := z1.cell 0; have c1' : w1.cell? ⟨w.heap.size, 1, none⟩ = some (.int .i64 0) := z1.cell 1; have c2 : w1.cell? ⟨w.heap.size, 2, none⟩ = some (.slice none 0 0) := z1.cell 2; have fz0 := z1.free 0; have fz1 := z1.free 1; have fz2 := z1.free 2; have HZ1 := Lib.hid z1; clear hown1 hg1 z1)
    have hz4 := ((HZ1.out.put 0 (.int .i64 3)).put 1 (.int .i64 0)).put 2 (.slice A1 ts.length c1)
    simp only [List.setIfInBounds_toArray, List.set_cons_zero, List.set_cons_succ] at hz4
    have ho4 : World.ownsRow (((w1.setCell ⟨w.heap.size, 0, none⟩ (.int .i64 3)).setCell ⟨w.heap.size, 1, none⟩ (.int .i64 0)).setCell ⟨w.heap.size, 2, none⟩ (.slice A1 ts.length c1)) (w.heap.size + 1) 30 3 (.slice A1 ts.length c1) ts.length xs := own_put (own_put (own_put HO.out (by simp) _) (by simp) _) (by simp) _
    have hb1 : Below w.heap.size w w1 := ((Below.refl _ _).alloc (Nat.le_refl _) _).grown HG.out (by simp) (by simp [Value.ownBlock])
    have hb4 : Below w.heap.size w (((w1.setCell ⟨w.heap.size, 0, none⟩ (.int .i64 3)).setCell ⟨w.heap.size, 1, none⟩ (.int .i64 0)).setCell ⟨w.heap.size, 2, none⟩ (.slice A1 ts.length c1)) := ((hb1.setCell (p := ⟨w.heap.size, 0, none⟩) (Nat.le_refl _) _).setCell (p := ⟨w.heap.size, 1, none⟩) (Nat.le_refl _) _).setCell (p := ⟨w.heap.size, 2, none⟩) (Nat.le_refl _) _
    have hf4 := HX.out.bel hb4
    generalize (((w1.setCell ⟨w.heap.size, 0, none⟩ (.int .i64 3)).setCell ⟨w.heap.size, 1, none⟩ (.int .i64 0)).setCell ⟨w.heap.size, 2, none⟩ (.slice A1 ts.length c1)) = w4 at *
    have d0 : w4.cell? ⟨w.heap.size, 0, none⟩ = some (.int .i64 3) := hz4.cell 0
    have d1 : w4.cell? ⟨w.heap.size, 1, none⟩ = some (.int .i64 0) := hz4.cell 1
    have d2 : w4.cell? ⟨w.heap.size, 2, none⟩ = some (.slice A1 ts.length c1) := hz4.cell 2
    exact bodyPost_ret (v := .agg #[.int .i64 3, .int .i64 0, .slice A1 ts.length c1]) (by simp [results, Try.results53, go_sem, d0, d1, d2]) rfl ⟨A1, c1, rfl, TrS.mono (TrS.of_own ho4 hf4 (fn (by omega) (by omega)) f0) (fun g k => k.elim .inl (fun k => .inr (by omega))), hb4⟩
theorem rderive_any (S : Nat → Prop) (n : Int) (hn : fits n) (ts : List Tm) (w : World) (A : Option Addr) (c : Nat) (ht : TrS S w (.mk 0 0 ts) A c) (hts : ts.length ≤ 1000000) :
    Calls Try.prog 43 #[.int .i64 n, .slice A ts.length c] w (MkPost S w (.mk 6 n ts)) := by
  obtain ⟨i0, hi0, hz0, hz1, hz2⟩ := info_parts term_info
  have hfit := ht.ofits
  simp only [Tm.args_mk] at hfit
  have hcm := hfit.2.2.2
  have hcl := hfit.2.2.1
  clear hfit
  unfold maxLen at hcm
  rcases A with _ | ad
  · obtain rfl : ts = [] := by
      rcases ts with _ | ⟨t, ts⟩
      · rfl
      · obtain ⟨g, k, _, _, hA, _, _⟩ := ht.at 0 (by simp)
        cases hA
    clear ht
    go_enter Try.func43, Try.ntmps43
    go_wp2_with (at_builtin; refine wpList_append_own_none _ rfl (.const (.slice none 0 0)) (.tmp 6) 28 rfl (w.heap.size + 1) 30 i0 3 Try.underlying28 hi0 hz1 (.slice none 0 0) 0 [] rfl (World.ownsRow_nil _ _ _ _) _ rfl ?_)
    exact bodyPost_ret (v := .agg #[.int .i64 6, .int .i64 n, .slice none 0 0]) (by simp [results, Try.results43, go_sem]) rfl ⟨none, 0, rfl, TrS.leaf _ _ _ _ _ _ (fn (by omega) (by omega)) hn (Nat.zero_le _), (Below.refl _ _).alloc (Nat.le_refl _) _⟩
  · obtain ⟨xs, hx, hc⟩ := ht.flat
    have hz := heap_alloc_new w (Obj.cells #[.int .i64 0, .int .i64 0, .slice none 0 0] 30)
    have hown0 := World.ownsRow_nil (w.alloc (Obj.cells #[.int .i64 0, .int .i64 0, .slice none 0 0] 30)) (w.heap.size + 1) 30 3
    have hlen := hx.len
    have hone := hx.one'
    have hnews : ∀ j u, xs[j]? = some u → (w.alloc (Obj.cells #[.int .i64 0, .int .i64 0, .slice none 0 0] 30)).cell? (ad.add j) = some u := by
      intro j u hj
      obtain ⟨g, k, hA, hcc⟩ := hc j u hj
      cases hA
      rw [add_at]
      exact cell_alloc hcc
    have h63 : 0 + ts.length ≤ maxLen := by unfold maxLen; omega
    have hbytes : (0 + ts.length) * 40 ≤ 140737488355328 := by omega
    have hbase : w.heap.size + 1 ≤ (w.alloc (Obj.cells #[.int .i64 0, .int .i64 0, .slice none 0 0] 30)).heap.size := by simp
    have HX := Lib.hid hx
    have HZ := Lib.hid hz
    clear hx hc hz ht
    go_enter Try.func43, Try.ntmps43
    go_wp2_with (at_builtin; refine wpList_append_own _ rfl (.const (.slice none 0 0)) (.tmp 6) 28 rfl (w.heap.size + 1) 30 i0 (.agg #[.int .i64 0, .int .i64 0, .slice none 0 0]) 3 40 Try.underlying28 hi0 hz0 hz1 hz2 rfl (by decide) (.slice none 0 0) 0 [] rfl hown0 ad ts.length c xs rfl hlen hnews hone h63 hbytes hbase ?_; intro v1 w1 hown1 hg1 _; simp only [Nat.zero_add, List.nil_append] at hown1; obtain ⟨A1, c1, hv1⟩ := own_form hown1; subst hv1; have HO := Lib.hid hown1; have HG := Lib.hid hg1; have z1 := Blk.grown_none HZ.out hg1; have c0 : w1.cell? ⟨w.heap.size, 0, none⟩ = some (.int .i64 0) := z1.cell 0; have c1' : w1.cell? ⟨w.heap.size, 1, none⟩ = some (.int .i64 0) := z1.cell 1; have c2 : w1.cell? ⟨w.heap.size, 2, none⟩ = some (.slice none 0 0) := z1.cell 2; have fz0 := z1.free 0; have fz1 := z1.free 1; have fz2 := z1.free 2; have HZ1 := Lib.hid z1; clear hown1 hg1 z1)
    have hz4 := ((HZ1.out.put 0 (.int .i64 6)).put 1 (.int .i64 n)).put 2 (.slice A1 ts.length c1)
    simp only [List.setIfInBounds_toArray, List.set_cons_zero, List.set_cons_succ] at hz4
    have ho4 : World.ownsRow (((w1.setCell ⟨w.heap.size, 0, none⟩ (.int .i64 6)).setCell ⟨w.heap.size, 1, none⟩ (.int .i64 n)).setCell ⟨w.heap.size, 2, none⟩ (.slice A1 ts.length c1)) (w.heap.size + 1) 30 3 (.slice A1 ts.length c1) ts.length xs := own_put (own_put (own_put HO.out (by simp) _) (by simp) _) (by simp) _
    have hb1 : Below w.heap.size w w1 := ((Below.refl _ _).alloc (Nat.le_refl _) _).grown HG.out (by simp) (by simp [Value.ownBlock])
    have hb4 : Below w.heap.size w (((w1.setCell ⟨w.heap.size, 0, none⟩ (.int .i64 6)).setCell ⟨w.heap.size, 1, none⟩ (.int .i64 n)).setCell ⟨w.heap.size, 2, none⟩ (.slice A1 ts.length c1)) := ((hb1.setCell (p := ⟨w.heap.size, 0, none⟩) (Nat.le_refl _) _).setCell (p := ⟨w.heap.size, 1, none⟩) (Nat.le_refl _) _).setCell (p := ⟨w.heap.size, 2, none⟩) (Nat.le_refl _) _
    have hf4 := HX.out.bel hb4
    generalize (((w1.setCell ⟨w.heap.size, 0, none⟩ (.int .i64 6)).setCell ⟨w.heap.size, 1, none⟩ (.int .i64 n)).setCell ⟨w.heap.size, 2, none⟩ (.slice A1 ts.length c1)) = w4 at *
    have d0 : w4.cell? ⟨w.heap.size, 0, none⟩ = some (.int .i64 6) := hz4.cell 0
    have d1 : w4.cell? ⟨w.heap.size, 1, none⟩ = some (.int .i64 n) := hz4.cell 1
    have d2 : w4.cell? ⟨w.heap.size, 2, none⟩ = some (.slice A1 ts.length c1) := hz4.cell 2
    exact bodyPost_ret (v := .agg #[.int .i64 6, .int .i64 n, .slice A1 ts.length c1]) (by simp [results, Try.results43, go_sem, d0, d1, d2]) rfl ⟨A1, c1, rfl, TrS.mono (TrS.of_own ho4 hf4 (fn (by omega) (by omega)) hn) (fun g k => k.elim .inl (fun k => .inr (by omega))), hb4⟩
end Go.Proofs.Ytddiclnkfhldlaa
namespace Go.Proofs.Ytddiclnkfhldlaa
open Go.RowKit Go.Sort
set_option linter.unusedVariables false
def agreeT (t u : Tm) : Tm := if lessT u t = true then .mk 5 0 [u, t] else .mk 5 0 [t, u]
def AgreePost (S : Nat → Prop) (w : World) (t : Tm) (e : Ending) (w' : World) : Prop :=
  ∃ A c, e = .returned (.tuple #[.agg #[.int .i64 t.op, .int .i64 t.val, .slice A t.args.length c], .bool true]) ∧ TrS (SN S w) w' t A c ∧ Below w.heap.size w w'
theorem agree_fin {S : Nat → Prop} {w V : World} {t u : Tm} {AA B : Option Addr} {CC d n : Nat} (ht : TrS S w t AA CC) (hu : TrS S w u B d) (hb : Below w.heap.size w V) (hn : n = V.heap.size) :
    TrS (SN S w) (V.alloc (.cells #[.int .i64 t.op, .int .i64 t.val, .slice AA t.args.length CC, .int .i64 u.op, .int .i64 u.val, .slice B u.args.length d] 30)) (.mk 5 0 [t, u]) (some ⟨n, 0, none⟩) 2 ∧ Below w.heap.size w (V.alloc (.cells #[.int .i64 t.op, .int .i64 t.val, .slice AA t.args.length CC, .int .i64 u.op, .int .i64 u.val, .slice B u.args.length d] 30)) := by
  subst hn
  have h2 := hb.alloc hb.size (.cells #[.int .i64 t.op, .int .i64 t.val, .slice AA t.args.length CC, .int .i64 u.op, .int .i64 u.val, .slice B u.args.length d] 30)
  exact ⟨TrS.two (heap_alloc_new V _) (.inr hb.size) (ht.sn.bel h2) (hu.sn.bel h2) (fn (by omega) (by omega)) f0, h2⟩
theorem agree_ret {S : Nat → Prop} {w w5 : World} {t : Tm} {A : Option Addr} {c R : Nat} {a : Act} (hr : Blk w5 R 30 #[.int .i64 t.op, .int .i64 t.val, .slice A t.args.length c]) (ht : TrS (SN S w) w5 t A c) (hb : Below w.heap.size w w5)
    (h4 : a.tmps[4]?.getD undef = .pointer (some ⟨R, 0, none⟩)) (h5 : a.tmps[5]?.getD undef = .bool true) (hd : a.defers = []) :
    bodyPost Try.prog Try.f55 (AgreePost S w t) Exit.ret a w5 := by
  have d0 : w5.cell? ⟨R, 0, none⟩ = some (.int .i64 t.op) := hr.cell 0
  have d1 : w5.cell? ⟨R, 1, none⟩ = some (.int .i64 t.val) := hr.cell 1
  have d2 : w5.cell? ⟨R, 2, none⟩ = some (.slice A t.args.length c) := hr.cell 2
  refine bodyPost_ret (v := .tuple #[.agg #[.int .i64 t.op, .int .i64 t.val, .slice A t.args.length c], .bool true]) ?_ hd ⟨A, c, rfl, ht, hb⟩
  simp [results, Try.results55, go_sem, d0, d1, d2, h4, h5]
attribute [local go_sem ↓] Go.wp_at_zero Go.wp_at_succ
theorem ragree_any (S : Nat → Prop) (t u : Tm) (w : World) (A B : Option Addr) (c d : Nat) (ht : TrS S w (.mk 4 0 [t]) A c) (hu : TrS S w u B d) :
    Calls Try.prog 55 #[.agg #[.int .i64 4, .int .i64 0, .slice A 1 c], .agg #[.int .i64 u.op, .int .i64 u.val, .slice B u.args.length d]] w (AgreePost S w (agreeT t u)) := by
  obtain ⟨g, k, AA, CC, rfl, hSg, c0, c1, c2, htr⟩ := ht.at 0 (by simp)
  simp only [Tm.args_mk, List.getElem_cons_zero] at c0 c1 c2 htr
  have hgl := World.block_lt_of_cell? w ⟨g, k + 0 * 3, none⟩ c0
  have q0 : w.cell? ⟨g, k, none⟩ = some (.int .i64 t.op) := by simpa using c0
  have q1 : w.cell? ⟨g, k + 1, none⟩ = some (.int .i64 t.val) := by simpa using c1
  have q2 : w.cell? ⟨g, k + 2, none⟩ = some (.slice AA t.args.length CC) := by simpa using c2
  clear c0 c1 c2 ht
  have Ht := Lib.hid htr
  have Hu := Lib.hid hu
  clear htr hu
  have b1 : Blk (((w.alloc (Obj.cells #[.int .i64 4, .int .i64 0, .slice (some ⟨g, k, none⟩) 1 c] 30)).alloc (Obj.cells #[.int .i64 u.op, .int .i64 u.val, .slice B u.args.length d] 30)).alloc (Obj.cells #[.int .i64 0, .int .i64 0, .slice none 0 0] 30)) w.heap.size 30 #[.int .i64 4, .int .i64 0, .slice (some ⟨g, k, none⟩) 1 c] := Blk.alloc (Blk.alloc (heap_alloc_new w _) _) _
  have b2 : Blk (((w.alloc (Obj.cells #[.int .i64 4, .int .i64 0, .slice (some ⟨g, k, none⟩) 1 c] 30)).alloc (Obj.cells #[.int .i64 u.op, .int .i64 u.val, .slice B u.args.length d] 30)).alloc (Obj.cells #[.int .i64 0, .int .i64 0, .slice none 0 0] 30)) (w.heap.size + 1) 30 #[.int .i64 u.op, .int .i64 u.val, .slice B u.args.length d] := by
    have := heap_alloc_new (w.alloc (Obj.cells #[.int .i64 4, .int .i64 0, .slice (some ⟨g, k, none⟩) 1 c] 30)) (Obj.cells #[.int .i64 u.op, .int .i64 u.val, .slice B u.args.length d] 30)
    simp only [World.size_alloc] at this
    exact Blk.alloc this _
  have b3 : Blk (((w.alloc (Obj.cells #[.int .i64 4, .int .i64 0, .slice (some ⟨g, k, none⟩) 1 c] 30)).alloc (Obj.cells #[.int .i64 u.op, .int .i64 u.val, .slice B u.args.length d] 30)).alloc (Obj.cells #[.int .i64 0, .int .i64 0, .slice none 0 0] 30)) (w.heap.size + 1 + 1) 30 #[.int .i64 0, .int .i64 0, .slice none 0 0] := by
    have := heap_alloc_new ((w.alloc (Obj.cells #[.int .i64 4, .int .i64 0, .slice (some ⟨g, k, none⟩) 1 c] 30)).alloc (Obj.cells #[.int .i64 u.op, .int .i64 u.val, .slice B u.args.length d] 30)) (Obj.cells #[.int .i64 0, .int .i64 0, .slice none 0 0] 30)
    simp only [World.size_alloc] at this
    exact this
  have tt := ((Ht.out.alloc (Obj.cells #[.int .i64 4, .int .i64 0, .slice (some ⟨g, k, none⟩) 1 c] 30)).alloc (Obj.cells #[.int .i64 u.op, .int .i64 u.val, .slice B u.args.length d] 30)).alloc (Obj.cells #[.int .i64 0, .int .i64 0, .slice none 0 0] 30)
  have tu := ((Hu.out.alloc (Obj.cells #[.int .i64 4, .int .i64 0, .slice (some ⟨g, k, none⟩) 1 c] 30)).alloc (Obj.cells #[.int .i64 u.op, .int .i64 u.val, .slice B u.args.length d] 30)).alloc (Obj.cells #[.int .i64 0, .int .i64 0, .slice none 0 0] 30)
  have r0 := cell_alloc (o := Obj.cells #[.int .i64 0, .int .i64 0, .slice none 0 0] 30) (cell_alloc (o := Obj.cells #[.int .i64 u.op, .int .i64 u.val, .slice B u.args.length d] 30) (cell_alloc (o := Obj.cells #[.int .i64 4, .int .i64 0, .slice (some ⟨g, k, none⟩) 1 c] 30) q0))
  have r1 := cell_alloc (o := Obj.cells #[.int .i64 0, .int .i64 0, .slice none 0 0] 30) (cell_alloc (o := Obj.cells #[.int .i64 u.op, .int .i64 u.val, .slice B u.args.length d] 30) (cell_alloc (o := Obj.cells #[.int .i64 4, .int .i64 0, .slice (some ⟨g, k, none⟩) 1 c] 30) q1))
  have r2 := cell_alloc (o := Obj.cells #[.int .i64 0, .int .i64 0, .slice none 0 0] 30) (cell_alloc (o := Obj.cells #[.int .i64 u.op, .int .i64 u.val, .slice B u.args.length d] 30) (cell_alloc (o := Obj.cells #[.int .i64 4, .int .i64 0, .slice (some ⟨g, k, none⟩) 1 c] 30) q2))
  have sz : (((w.alloc (Obj.cells #[.int .i64 4, .int .i64 0, .slice (some ⟨g, k, none⟩) 1 c] 30)).alloc (Obj.cells #[.int .i64 u.op, .int .i64 u.val, .slice B u.args.length d] 30)).alloc (Obj.cells #[.int .i64 0, .int .i64 0, .slice none 0 0] 30)).heap.size = w.heap.size + 1 + 1 + 1 := by simp
  have bb : Below w.heap.size w (((w.alloc (Obj.cells #[.int .i64 4, .int .i64 0, .slice (some ⟨g, k, none⟩) 1 c] 30)).alloc (Obj.cells #[.int .i64 u.op, .int .i64 u.val, .slice B u.args.length d] 30)).alloc (Obj.cells #[.int .i64 0, .int .i64 0, .slice none 0 0] 30)) := (((Below.refl _ _).alloc (Nat.le_refl _) _).alloc (by simp) _).alloc (by simp; omega) _
  have HH := Lib.hid (And.intro b1 (And.intro b2 (And.intro b3 (And.intro tt (And.intro tu (And.intro r0 (And.intro r1 (And.intro r2 (And.intro sz bb)))))))))
  clear b1 b2 b3 tt tu r0 r1 r2 sz bb
  have Ht0 := Ht
  have Hu0 := Hu
  go_enter Try.func55, Try.ntmps55
  go_wp2_with fail
  clear q0 q1 q2 Ht Hu
  generalize ((w.alloc (Obj.cells #[.int .i64 4, .int .i64 0, .slice (some ⟨g, k, none⟩) 1 c] 30)).alloc (Obj.cells #[.int .i64 u.op, .int .i64 u.val, .slice B u.args.length d] 30)).alloc (Obj.cells #[.int .i64 0, .int .i64 0, .slice none 0 0] 30) = W at *
  obtain ⟨b1, b2, b3, tt, tu, r0, r1, r2, sz, bb⟩ := HH.out
  have c2 : W.cell? ⟨w.heap.size, 2, none⟩ = some (.slice (some ⟨g, k, none⟩) 1 c) := b1.cell 2
  have d0 : W.cell? ⟨w.heap.size + 1, 0, none⟩ = some (.int .i64 u.op) := b2.cell 0
  have d1 : W.cell? ⟨w.heap.size + 1, 1, none⟩ = some (.int .i64 u.val) := b2.cell 1
  have d2 : W.cell? ⟨w.heap.size + 1, 2, none⟩ = some (.slice B u.args.length d) := b2.cell 2
  have n0 := World.new_ne W _ r0
  have n1 := World.new_ne W _ r1
  have n2 := World.new_ne W _ r2
  have n3 := World.new_ne W _ c2
  have n4 := World.new_ne W _ d0
  have n5 := World.new_ne W _ d1
  have n6 := World.new_ne W _ d2
  have HB := Lib.hid (And.intro b1 (And.intro b2 (And.intro b3 (And.intro tt (And.intro tu bb)))))
  have HS := Lib.hid sz
  clear b1 b2 b3 tt tu bb sz HH
  go_region_held3 (fun w' => w'.cell? ⟨w.heap.size, 2, none⟩ = some (.slice (some ⟨g, k, none⟩) 1 c) ∧ w'.cell? ⟨g, k, none⟩ = some (.int .i64 t.op) ∧ w'.cell? ⟨g, k + 1, none⟩ = some (.int .i64 t.val) ∧ w'.cell? ⟨g, k + 2, none⟩ = some (.slice AA t.args.length CC) ∧ w'.cell? ⟨w.heap.size + 1, 0, none⟩ = some (.int .i64 u.op) ∧ w'.cell? ⟨w.heap.size + 1, 1, none⟩ = some (.int .i64 u.val) ∧ w'.cell? ⟨w.heap.size + 1, 2, none⟩ = some (.slice B u.args.length d)) (go_keep) (fail)
  · have e1 : Blk (((W.alloc (Obj.cells #[.int .i64 t.op, .int .i64 t.val, .slice AA t.args.length CC] 30)).alloc (Obj.cells #[.int .i64 u.op, .int .i64 u.val, .slice B u.args.length d] 30)).drew) W.heap.size 30 #[.int .i64 t.op, .int .i64 t.val, .slice AA t.args.length CC] := Blk.drewN (Blk.alloc (heap_alloc_new W _) _) 1
    have e2 : Blk (((W.alloc (Obj.cells #[.int .i64 t.op, .int .i64 t.val, .slice AA t.args.length CC] 30)).alloc (Obj.cells #[.int .i64 u.op, .int .i64 u.val, .slice B u.args.length d] 30)).drew) (W.heap.size + 1) 30 #[.int .i64 u.op, .int .i64 u.val, .slice B u.args.length d] := by
      have := heap_alloc_new (W.alloc (Obj.cells #[.int .i64 t.op, .int .i64 t.val, .slice AA t.args.length CC] 30)) (Obj.cells #[.int .i64 u.op, .int .i64 u.val, .slice B u.args.length d] 30)
      simp only [World.size_alloc] at this
      exact Blk.drewN this 1
    have e3 : Blk (((W.alloc (Obj.cells #[.int .i64 t.op, .int .i64 t.val, .slice AA t.args.length CC] 30)).alloc (Obj.cells #[.int .i64 u.op, .int .i64 u.val, .slice B u.args.length d] 30)).drew) (w.heap.size + 1 + 1) 30 #[.int .i64 0, .int .i64 0, .slice none 0 0] := Blk.drewN (Blk.alloc (Blk.alloc HB.out.2.2.1 _) _) 1
    have bb : Below w.heap.size w (((W.alloc (Obj.cells #[.int .i64 t.op, .int .i64 t.val, .slice AA t.args.length CC] 30)).alloc (Obj.cells #[.int .i64 u.op, .int .i64 u.val, .slice B u.args.length d] 30)).drew) := below_drewN ((HB.out.2.2.2.2.2.alloc HB.out.2.2.2.2.2.size _).alloc (by have := HB.out.2.2.2.2.2.size; simp; omega) _) 1
    have sz3 := HS.out
    clear n0 n1 n2 n3 n4 n5 n6 c2 d0 d1 d2 r0 r1 r2
    generalize ((W.alloc (Obj.cells #[.int .i64 t.op, .int .i64 t.val, .slice AA t.args.length CC] 30)).alloc (Obj.cells #[.int .i64 u.op, .int .i64 u.val, .slice B u.args.length d] 30)).drew = W3 at *
    obtain ⟨X, hX⟩ : ∃ X, X = W.heap.size := ⟨_, rfl⟩
    rw [← hX] at e1 e2 sz3 ⊢
    clear hX
    have b1 := e1
    have b2 := e2
    clear e1 e2
    have x0 : W3.cell? ⟨X, 0, none⟩ = some (.int .i64 t.op) := b1.cell 0
    have x1 : W3.cell? ⟨X, 1, none⟩ = some (.int .i64 t.val) := b1.cell 1
    have x2 : W3.cell? ⟨X, 2, none⟩ = some (.slice AA t.args.length CC) := b1.cell 2
    have y0 : W3.cell? ⟨X + 1, 0, none⟩ = some (.int .i64 u.op) := b2.cell 0
    have y1 : W3.cell? ⟨X + 1, 1, none⟩ = some (.int .i64 u.val) := b2.cell 1
    have y2 : W3.cell? ⟨X + 1, 2, none⟩ = some (.slice B u.args.length d) := b2.cell 2
    have KB := Lib.hid (And.intro b1 (And.intro b2 (And.intro e3 bb)))
    have hXw : w.heap.size + 1 + 1 < X := by omega
    clear b1 b2 e3 bb HS HB sz3
    go_wp2_with fail
    refine (rless_any u t W3 B AA d CC (Hu0.out.tr.bel KB.out.2.2.2) (Ht0.out.tr.bel KB.out.2.2.2)).mono ?_
    rintro e w4 ⟨rfl, hb4⟩
    clear x0 x1 x2 y0 y1 y2
    have b1 := KB.out.1.below hb4 KB.out.1.lt
    have b2 := KB.out.2.1.below hb4 KB.out.2.1.lt
    have b3 := KB.out.2.2.1.below hb4 KB.out.2.2.1.lt
    have bb := below_then KB.out.2.2.2 hb4 KB.out.2.2.2.size
    have x0 : w4.cell? ⟨X, 0, none⟩ = some (.int .i64 t.op) := b1.cell 0
    have x1 : w4.cell? ⟨X, 1, none⟩ = some (.int .i64 t.val) := b1.cell 1
    have x2 : w4.cell? ⟨X, 2, none⟩ = some (.slice AA t.args.length CC) := b1.cell 2
    have y0 : w4.cell? ⟨X + 1, 0, none⟩ = some (.int .i64 u.op) := b2.cell 0
    have y1 : w4.cell? ⟨X + 1, 1, none⟩ = some (.int .i64 u.val) := b2.cell 1
    have y2 : w4.cell? ⟨X + 1, 2, none⟩ = some (.slice B u.args.length d) := b2.cell 2
    have z0 : w4.cell? ⟨w.heap.size + 1 + 1, 0, none⟩ = some (.int .i64 0) := b3.cell 0
    have z1 : w4.cell? ⟨w.heap.size + 1 + 1, 1, none⟩ = some (.int .i64 0) := b3.cell 1
    have z2 : w4.cell? ⟨w.heap.size + 1 + 1, 2, none⟩ = some (.slice none 0 0) := b3.cell 2
    have fx0 := b1.free 0
    have fx1 := b1.free 1
    have fx2 := b1.free 2
    have fy0 := b2.free 0
    have fy1 := b2.free 1
    have fy2 := b2.free 2
    have fz0 := b3.free 0
    have fz1 := b3.free 1
    have fz2 := b3.free 2
    have hX4 : X + 1 < w4.heap.size := b2.lt
    have hZ4 : w.heap.size + 1 + 1 < w4.heap.size := by omega
    have hX5 : X < w4.heap.size := by omega
    have nX : w.heap.size + 1 + 1 ≠ X := by omega
    have nX1 : w.heap.size + 1 + 1 ≠ X + 1 := by omega
    have LB := Lib.hid (And.intro b1 (And.intro b2 (And.intro b3 bb)))
    clear hb4 KB b1 b2 b3 bb
    cases hless : lessT u t
    · have HL := Lib.hid hless
      clear hless
      go_wp2_with fail
      have hbV : Below w.heap.size w (((w4.setCell ⟨w.heap.size + 1 + 1, 0, none⟩ (.int .i64 5)).setCell ⟨w.heap.size + 1 + 1, 1, none⟩ (.int .i64 0)).setCell ⟨w.heap.size + 1 + 1, 2, none⟩ (.slice (some ⟨w4.heap.size, 0, none⟩) 2 2)) := by
        refine Below.setCell (p := ⟨w.heap.size + 1 + 1, 2, none⟩) (Below.setCell (p := ⟨w.heap.size + 1 + 1, 1, none⟩) (Below.setCell (p := ⟨w.heap.size + 1 + 1, 0, none⟩) ?_ (by simp; omega) _) (by simp; omega) _) (by simp; omega) _
        exact LB.out.2.2.2
      have hz := (((LB.out.2.2.1.put 0 (.int .i64 5)).put 1 (.int .i64 0)).put 2 (.slice (some ⟨w4.heap.size, 0, none⟩) 2 2)).alloc (Obj.cells #[.int .i64 t.op, .int .i64 t.val, .slice AA t.args.length CC, .int .i64 u.op, .int .i64 u.val, .slice B u.args.length d] 30)
      simp only [List.setIfInBounds_toArray, List.set_cons_zero, List.set_cons_succ] at hz
      have hn : w4.heap.size = ((((w4.setCell ⟨w.heap.size + 1 + 1, 0, none⟩ (.int .i64 5)).setCell ⟨w.heap.size + 1 + 1, 1, none⟩ (.int .i64 0)).setCell ⟨w.heap.size + 1 + 1, 2, none⟩ (.slice (some ⟨w4.heap.size, 0, none⟩) 2 2))).heap.size := by simp
      obtain ⟨hf1, hf2⟩ := agree_fin Ht0.out Hu0.out hbV hn
      have hag : agreeT t u = .mk 5 0 [t, u] := by unfold agreeT; rw [HL.out]; rfl
      rw [hag]
      exact agree_ret (t := .mk 5 0 [t, u]) hz hf1 hf2 rfl rfl rfl
    · have HL := Lib.hid hless
      clear hless
      go_wp2_with fail
      have hbV : Below w.heap.size w (((((((((w4.setCell ⟨X, 0, none⟩ (.int .i64 u.op)).setCell ⟨X, 1, none⟩ (.int .i64 u.val)).setCell ⟨X, 2, none⟩ (.slice B u.args.length d)).setCell ⟨X + 1, 0, none⟩ (.int .i64 t.op)).setCell ⟨X + 1, 1, none⟩ (.int .i64 t.val)).setCell ⟨X + 1, 2, none⟩ (.slice AA t.args.length CC)).setCell ⟨w.heap.size + 1 + 1, 0, none⟩ (.int .i64 5)).setCell ⟨w.heap.size + 1 + 1, 1, none⟩ (.int .i64 0)).setCell ⟨w.heap.size + 1 + 1, 2, none⟩ (.slice (some ⟨w4.heap.size, 0, none⟩) 2 2)) := by
        refine Below.setCell (p := ⟨w.heap.size + 1 + 1, 2, none⟩) (Below.setCell (p := ⟨w.heap.size + 1 + 1, 1, none⟩) (Below.setCell (p := ⟨w.heap.size + 1 + 1, 0, none⟩) ?_ (by simp; omega) _) (by simp; omega) _) (by simp; omega) _
        refine Below.setCell (p := ⟨X + 1, 2, none⟩) (Below.setCell (p := ⟨X + 1, 1, none⟩) (Below.setCell (p := ⟨X + 1, 0, none⟩) ?_ (by simp; omega) _) (by simp; omega) _) (by simp; omega) _
        refine Below.setCell (p := ⟨X, 2, none⟩) (Below.setCell (p := ⟨X, 1, none⟩) (Below.setCell (p := ⟨X, 0, none⟩) ?_ (by simp; omega) _) (by simp; omega) _) (by simp; omega) _
        exact LB.out.2.2.2
      have hz := (((((((((LB.out.2.2.1.far (p := ⟨X, 0, none⟩) (by simp; omega) (.int .i64 u.op)).far (p := ⟨X, 1, none⟩) (by simp; omega) (.int .i64 u.val)).far (p := ⟨X, 2, none⟩) (by simp; omega) (.slice B u.args.length d)).far (p := ⟨X + 1, 0, none⟩) (by simp; omega) (.int .i64 t.op)).far (p := ⟨X + 1, 1, none⟩) (by simp; omega) (.int .i64 t.val)).far (p := ⟨X + 1, 2, none⟩) (by simp; omega) (.slice AA t.args.length CC)).put 0 (.int .i64 5)).put 1 (.int .i64 0)).put 2 (.slice (some ⟨w4.heap.size, 0, none⟩) 2 2)).alloc (Obj.cells #[.int .i64 u.op, .int .i64 u.val, .slice B u.args.length d, .int .i64 t.op, .int .i64 t.val, .slice AA t.args.length CC] 30)
      simp only [List.setIfInBounds_toArray, List.set_cons_zero, List.set_cons_succ] at hz
      have hn : w4.heap.size = ((((((((((w4.setCell ⟨X, 0, none⟩ (.int .i64 u.op)).setCell ⟨X, 1, none⟩ (.int .i64 u.val)).setCell ⟨X, 2, none⟩ (.slice B u.args.length d)).setCell ⟨X + 1, 0, none⟩ (.int .i64 t.op)).setCell ⟨X + 1, 1, none⟩ (.int .i64 t.val)).setCell ⟨X + 1, 2, none⟩ (.slice AA t.args.length CC)).setCell ⟨w.heap.size + 1 + 1, 0, none⟩ (.int .i64 5)).setCell ⟨w.heap.size + 1 + 1, 1, none⟩ (.int .i64 0)).setCell ⟨w.heap.size + 1 + 1, 2, none⟩ (.slice (some ⟨w4.heap.size, 0, none⟩) 2 2))).heap.size := by simp
      obtain ⟨hf1, hf2⟩ := agree_fin Hu0.out Ht0.out hbV hn
      have hag : agreeT t u = .mk 5 0 [u, t] := by unfold agreeT; rw [HL.out]; rfl
      rw [hag]
      exact agree_ret (t := .mk 5 0 [u, t]) hz hf1 hf2 rfl rfl rfl
  · have e1 : Blk (((W.alloc (Obj.cells #[.int .i64 u.op, .int .i64 u.val, .slice B u.args.length d] 30)).alloc (Obj.cells #[.int .i64 t.op, .int .i64 t.val, .slice AA t.args.length CC] 30)).drew) W.heap.size 30 #[.int .i64 u.op, .int .i64 u.val, .slice B u.args.length d] := Blk.drewN (Blk.alloc (heap_alloc_new W _) _) 1
    have e2 : Blk (((W.alloc (Obj.cells #[.int .i64 u.op, .int .i64 u.val, .slice B u.args.length d] 30)).alloc (Obj.cells #[.int .i64 t.op, .int .i64 t.val, .slice AA t.args.length CC] 30)).drew) (W.heap.size + 1) 30 #[.int .i64 t.op, .int .i64 t.val, .slice AA t.args.length CC] := by
      have := heap_alloc_new (W.alloc (Obj.cells #[.int .i64 u.op, .int .i64 u.val, .slice B u.args.length d] 30)) (Obj.cells #[.int .i64 t.op, .int .i64 t.val, .slice AA t.args.length CC] 30)
      simp only [World.size_alloc] at this
      exact Blk.drewN this 1
    have e3 : Blk (((W.alloc (Obj.cells #[.int .i64 u.op, .int .i64 u.val, .slice B u.args.length d] 30)).alloc (Obj.cells #[.int .i64 t.op, .int .i64 t.val, .slice AA t.args.length CC] 30)).drew) (w.heap.size + 1 + 1) 30 #[.int .i64 0, .int .i64 0, .slice none 0 0] := Blk.drewN (Blk.alloc (Blk.alloc HB.out.2.2.1 _) _) 1
    have bb : Below w.heap.size w (((W.alloc (Obj.cells #[.int .i64 u.op, .int .i64 u.val, .slice B u.args.length d] 30)).alloc (Obj.cells #[.int .i64 t.op, .int .i64 t.val, .slice AA t.args.length CC] 30)).drew) := below_drewN ((HB.out.2.2.2.2.2.alloc HB.out.2.2.2.2.2.size _).alloc (by have := HB.out.2.2.2.2.2.size; simp; omega) _) 1
    have sz3 := HS.out
    clear n0 n1 n2 n3 n4 n5 n6 c2 d0 d1 d2 r0 r1 r2
    generalize ((W.alloc (Obj.cells #[.int .i64 u.op, .int .i64 u.val, .slice B u.args.length d] 30)).alloc (Obj.cells #[.int .i64 t.op, .int .i64 t.val, .slice AA t.args.length CC] 30)).drew = W3 at *
    obtain ⟨X, hX⟩ : ∃ X, X = W.heap.size := ⟨_, rfl⟩
    rw [← hX] at e1 e2 sz3 ⊢
    clear hX
    have b1 := e2
    have b2 := e1
    clear e1 e2
    have x0 : W3.cell? ⟨X + 1, 0, none⟩ = some (.int .i64 t.op) := b1.cell 0
    have x1 : W3.cell? ⟨X + 1, 1, none⟩ = some (.int .i64 t.val) := b1.cell 1
    have x2 : W3.cell? ⟨X + 1, 2, none⟩ = some (.slice AA t.args.length CC) := b1.cell 2
    have y0 : W3.cell? ⟨X, 0, none⟩ = some (.int .i64 u.op) := b2.cell 0
    have y1 : W3.cell? ⟨X, 1, none⟩ = some (.int .i64 u.val) := b2.cell 1
    have y2 : W3.cell? ⟨X, 2, none⟩ = some (.slice B u.args.length d) := b2.cell 2
    have KB := Lib.hid (And.intro b1 (And.intro b2 (And.intro e3 bb)))
    have hXw : w.heap.size + 1 + 1 < X := by omega
    clear b1 b2 e3 bb HS HB sz3
    go_wp2_with fail
    refine (rless_any u t W3 B AA d CC (Hu0.out.tr.bel KB.out.2.2.2) (Ht0.out.tr.bel KB.out.2.2.2)).mono ?_
    rintro e w4 ⟨rfl, hb4⟩
    clear x0 x1 x2 y0 y1 y2
    have b1 := KB.out.1.below hb4 KB.out.1.lt
    have b2 := KB.out.2.1.below hb4 KB.out.2.1.lt
    have b3 := KB.out.2.2.1.below hb4 KB.out.2.2.1.lt
    have bb := below_then KB.out.2.2.2 hb4 KB.out.2.2.2.size
    have x0 : w4.cell? ⟨X + 1, 0, none⟩ = some (.int .i64 t.op) := b1.cell 0
    have x1 : w4.cell? ⟨X + 1, 1, none⟩ = some (.int .i64 t.val) := b1.cell 1
    have x2 : w4.cell? ⟨X + 1, 2, none⟩ = some (.slice AA t.args.length CC) := b1.cell 2
    have y0 : w4.cell? ⟨X, 0, none⟩ = some (.int .i64 u.op) := b2.cell 0
    have y1 : w4.cell? ⟨X, 1, none⟩ = some (.int .i64 u.val) := b2.cell 1
    have y2 : w4.cell? ⟨X, 2, none⟩ = some (.slice B u.args.length d) := b2.cell 2
    have z0 : w4.cell? ⟨w.heap.size + 1 + 1, 0, none⟩ = some (.int .i64 0) := b3.cell 0
    have z1 : w4.cell? ⟨w.heap.size + 1 + 1, 1, none⟩ = some (.int .i64 0) := b3.cell 1
    have z2 : w4.cell? ⟨w.heap.size + 1 + 1, 2, none⟩ = some (.slice none 0 0) := b3.cell 2
    have fx0 := b1.free 0
    have fx1 := b1.free 1
    have fx2 := b1.free 2
    have fy0 := b2.free 0
    have fy1 := b2.free 1
    have fy2 := b2.free 2
    have fz0 := b3.free 0
    have fz1 := b3.free 1
    have fz2 := b3.free 2
    have hX4 : X + 1 < w4.heap.size := b1.lt
    have hZ4 : w.heap.size + 1 + 1 < w4.heap.size := by omega
    have hX5 : X < w4.heap.size := by omega
    have nX : w.heap.size + 1 + 1 ≠ X := by omega
    have nX1 : w.heap.size + 1 + 1 ≠ X + 1 := by omega
    have LB := Lib.hid (And.intro b1 (And.intro b2 (And.intro b3 bb)))
    clear hb4 KB b1 b2 b3 bb
    cases hless : lessT u t
    · have HL := Lib.hid hless
      clear hless
      go_wp2_with fail
      have hbV : Below w.heap.size w (((w4.setCell ⟨w.heap.size + 1 + 1, 0, none⟩ (.int .i64 5)).setCell ⟨w.heap.size + 1 + 1, 1, none⟩ (.int .i64 0)).setCell ⟨w.heap.size + 1 + 1, 2, none⟩ (.slice (some ⟨w4.heap.size, 0, none⟩) 2 2)) := by
        refine Below.setCell (p := ⟨w.heap.size + 1 + 1, 2, none⟩) (Below.setCell (p := ⟨w.heap.size + 1 + 1, 1, none⟩) (Below.setCell (p := ⟨w.heap.size + 1 + 1, 0, none⟩) ?_ (by simp; omega) _) (by simp; omega) _) (by simp; omega) _
        exact LB.out.2.2.2
      have hz := (((LB.out.2.2.1.put 0 (.int .i64 5)).put 1 (.int .i64 0)).put 2 (.slice (some ⟨w4.heap.size, 0, none⟩) 2 2)).alloc (Obj.cells #[.int .i64 t.op, .int .i64 t.val, .slice AA t.args.length CC, .int .i64 u.op, .int .i64 u.val, .slice B u.args.length d] 30)
      simp only [List.setIfInBounds_toArray, List.set_cons_zero, List.set_cons_succ] at hz
      have hn : w4.heap.size = ((((w4.setCell ⟨w.heap.size + 1 + 1, 0, none⟩ (.int .i64 5)).setCell ⟨w.heap.size + 1 + 1, 1, none⟩ (.int .i64 0)).setCell ⟨w.heap.size + 1 + 1, 2, none⟩ (.slice (some ⟨w4.heap.size, 0, none⟩) 2 2))).heap.size := by simp
      obtain ⟨hf1, hf2⟩ := agree_fin Ht0.out Hu0.out hbV hn
      have hag : agreeT t u = .mk 5 0 [t, u] := by unfold agreeT; rw [HL.out]; rfl
      rw [hag]
      exact agree_ret (t := .mk 5 0 [t, u]) hz hf1 hf2 rfl rfl rfl
    · have HL := Lib.hid hless
      clear hless
      go_wp2_with fail
      have hbV : Below w.heap.size w (((((((((w4.setCell ⟨X + 1, 0, none⟩ (.int .i64 u.op)).setCell ⟨X + 1, 1, none⟩ (.int .i64 u.val)).setCell ⟨X + 1, 2, none⟩ (.slice B u.args.length d)).setCell ⟨X, 0, none⟩ (.int .i64 t.op)).setCell ⟨X, 1, none⟩ (.int .i64 t.val)).setCell ⟨X, 2, none⟩ (.slice AA t.args.length CC)).setCell ⟨w.heap.size + 1 + 1, 0, none⟩ (.int .i64 5)).setCell ⟨w.heap.size + 1 + 1, 1, none⟩ (.int .i64 0)).setCell ⟨w.heap.size + 1 + 1, 2, none⟩ (.slice (some ⟨w4.heap.size, 0, none⟩) 2 2)) := by
        refine Below.setCell (p := ⟨w.heap.size + 1 + 1, 2, none⟩) (Below.setCell (p := ⟨w.heap.size + 1 + 1, 1, none⟩) (Below.setCell (p := ⟨w.heap.size + 1 + 1, 0, none⟩) ?_ (by simp; omega) _) (by simp; omega) _) (by simp; omega) _
        refine Below.setCell (p := ⟨X, 2, none⟩) (Below.setCell (p := ⟨X, 1, none⟩) (Below.setCell (p := ⟨X, 0, none⟩) ?_ (by simp; omega) _) (by simp; omega) _) (by simp; omega) _
        refine Below.setCell (p := ⟨X + 1, 2, none⟩) (Below.setCell (p := ⟨X + 1, 1, none⟩) (Below.setCell (p := ⟨X + 1, 0, none⟩) ?_ (by simp; omega) _) (by simp; omega) _) (by simp; omega) _
        exact LB.out.2.2.2
      have hz := (((((((((LB.out.2.2.1.far (p := ⟨X + 1, 0, none⟩) (by simp; omega) (.int .i64 u.op)).far (p := ⟨X + 1, 1, none⟩) (by simp; omega) (.int .i64 u.val)).far (p := ⟨X + 1, 2, none⟩) (by simp; omega) (.slice B u.args.length d)).far (p := ⟨X, 0, none⟩) (by simp; omega) (.int .i64 t.op)).far (p := ⟨X, 1, none⟩) (by simp; omega) (.int .i64 t.val)).far (p := ⟨X, 2, none⟩) (by simp; omega) (.slice AA t.args.length CC)).put 0 (.int .i64 5)).put 1 (.int .i64 0)).put 2 (.slice (some ⟨w4.heap.size, 0, none⟩) 2 2)).alloc (Obj.cells #[.int .i64 u.op, .int .i64 u.val, .slice B u.args.length d, .int .i64 t.op, .int .i64 t.val, .slice AA t.args.length CC] 30)
      simp only [List.setIfInBounds_toArray, List.set_cons_zero, List.set_cons_succ] at hz
      have hn : w4.heap.size = ((((((((((w4.setCell ⟨X + 1, 0, none⟩ (.int .i64 u.op)).setCell ⟨X + 1, 1, none⟩ (.int .i64 u.val)).setCell ⟨X + 1, 2, none⟩ (.slice B u.args.length d)).setCell ⟨X, 0, none⟩ (.int .i64 t.op)).setCell ⟨X, 1, none⟩ (.int .i64 t.val)).setCell ⟨X, 2, none⟩ (.slice AA t.args.length CC)).setCell ⟨w.heap.size + 1 + 1, 0, none⟩ (.int .i64 5)).setCell ⟨w.heap.size + 1 + 1, 1, none⟩ (.int .i64 0)).setCell ⟨w.heap.size + 1 + 1, 2, none⟩ (.slice (some ⟨w4.heap.size, 0, none⟩) 2 2))).heap.size := by simp
      obtain ⟨hf1, hf2⟩ := agree_fin Hu0.out Ht0.out hbV hn
      have hag : agreeT t u = .mk 5 0 [u, t] := by unfold agreeT; rw [HL.out]; rfl
      rw [hag]
      exact agree_ret (t := .mk 5 0 [u, t]) hz hf1 hf2 rfl rfl rfl
end Go.Proofs.Ytddiclnkfhldlaa
namespace Go.Proofs.Ytddiclnkfhldlaa
set_option linter.unusedVariables false
mutual
/-- The number of the nodes of a term, the depth of a term. -/
def nodesT : Tm → Nat
  | .mk _ _ l => 1 + nodesL l
def nodesL : List Tm → Nat
  | [] => 0
  | x :: xs => nodesT x + nodesL xs
end
mutual
def depthT : Tm → Nat
  | .mk _ _ l => 1 + depthL l
def depthL : List Tm → Nat
  | [] => 0
  | x :: xs => max (depthT x) (depthL xs)
end
/-- The form of a node. -/
def formN (o v : Int) (l : List Tm) : Bool :=
  if o = 1 then decide (l.length = 0)
  else if o = 2 ∨ o = 9 ∨ o = 10 then decide (l.length = 0) && decide (0 ≤ v)
  else if o = 3 then decide (v = 0)
  else if o = 6 then decide (0 ≤ v)
  else if o = 4 then decide (l.length = 1) && decide (v = 0)
  else if o = 8 then decide (l.length = 1) && decide (0 ≤ v)
  else if o = 5 then (match l with | [a, b] => decide (v = 0) && !lessT b a | _ => false)
  else if o = 7 then decide (l.length = 2) && decide (v = 0)
  else false
mutual
def formsT : Tm → Bool
  | .mk o v l => formsL l && formN o v l
def formsL : List Tm → Bool
  | [] => true
  | x :: xs => formsT x && formsL xs
end
theorem nodesT_mk (o v : Int) (l : List Tm) : nodesT (.mk o v l) = 1 + nodesL l := by rw [nodesT]
theorem depthT_mk (o v : Int) (l : List Tm) : depthT (.mk o v l) = 1 + depthL l := by rw [depthT]
theorem formsT_mk (o v : Int) (l : List Tm) : formsT (.mk o v l) = (formsL l && formN o v l) := by rw [formsT]
theorem nodesL_nil : nodesL [] = 0 := by rw [nodesL]
theorem nodesL_cons (x : Tm) (xs : List Tm) : nodesL (x :: xs) = nodesT x + nodesL xs := by rw [nodesL]
theorem depthL_nil : depthL [] = 0 := by rw [depthL]
theorem depthL_cons (x : Tm) (xs : List Tm) : depthL (x :: xs) = max (depthT x) (depthL xs) := by rw [depthL]
theorem formsL_nil : formsL [] = true := by rw [formsL]
theorem formsL_cons (x : Tm) (xs : List Tm) : formsL (x :: xs) = (formsT x && formsL xs) := by rw [formsL]
theorem nodesT_pos (t : Tm) : 1 ≤ nodesT t := by obtain ⟨o, v, l⟩ := t; rw [nodesT_mk]; omega
theorem depthT_pos (t : Tm) : 1 ≤ depthT t := by obtain ⟨o, v, l⟩ := t; rw [depthT_mk]; omega
/-- How many nodes a drawn term of a depth may have. -/
def nb : Nat → Nat
  | 0 => 0
  | d + 1 => 1 + 3 * nb d
/-- A valid term of a depth. -/
structure Fine (d : Nat) (t : Tm) : Prop where
  depth : depthT t ≤ d
  nodes : nodesT t ≤ nb d
  forms : formsT t = true
theorem nb_pos (d : Nat) : d ≤ nb d := by
  induction d with
  | zero => exact Nat.le_refl _
  | succ d ih => simp only [nb]; omega
theorem nb_mono {d e : Nat} (h : d ≤ e) : nb d ≤ nb e := by
  induction h with
  | refl => exact Nat.le_refl _
  | step _ ih => simp only [nb]; omega
theorem Fine.mono {d e : Nat} {t : Tm} (h : Fine d t) (hd : d ≤ e) : Fine e t := ⟨Nat.le_trans h.depth hd, Nat.le_trans h.nodes (nb_mono hd), h.forms⟩
theorem fine_leaf {d : Nat} {o v : Int} (h : o = 1 ∨ ((o = 2 ∨ o = 9 ∨ o = 10) ∧ 0 ≤ v)) (hd : 1 ≤ d) : Fine d (.mk o v []) := by
  refine ⟨?_, ?_, ?_⟩
  · rw [depthT_mk, depthL_nil]; omega
  · rw [nodesT_mk, nodesL_nil]; have := nb_pos d; omega
  · rw [formsT_mk, formsL_nil]
    unfold formN
    rcases h with rfl | ⟨rfl | rfl | rfl, hv⟩ <;> simp <;> omega
theorem listL {d : Nat} {ts : List Tm} (h : ∀ t ∈ ts, Fine d t) : depthL ts ≤ d ∧ nodesL ts ≤ ts.length * nb d ∧ formsL ts = true := by
  induction ts with
  | nil => rw [depthL_nil, nodesL_nil, formsL_nil]; exact ⟨Nat.zero_le _, Nat.zero_le _, rfl⟩
  | cons x xs ih =>
    obtain ⟨h1, h2, h3⟩ := ih (fun t ht => h t (by simp [ht]))
    have hx := h x (by simp)
    rw [depthL_cons, nodesL_cons, formsL_cons]
    refine ⟨?_, ?_, ?_⟩
    · have := hx.depth; omega
    · have := hx.nodes
      rw [List.length_cons, Nat.add_mul]
      omega
    · rw [hx.forms, h3]; rfl
theorem fine_list {d : Nat} {ts : List Tm} (h : ∀ t ∈ ts, Fine d t) (hl : ts.length ≤ 3) : Fine (d + 1) (.mk 3 0 ts) := by
  obtain ⟨h1, h2, h3⟩ := listL h
  have h4 : ts.length * nb d ≤ 3 * nb d := Nat.mul_le_mul_right _ hl
  refine ⟨?_, ?_, ?_⟩
  · rw [depthT_mk]; omega
  · rw [nodesT_mk]; simp only [nb]; omega
  · rw [formsT_mk, h3]; simp [formN]
theorem fine_derive {d : Nat} {t : Tm} {n : Int} (h : Fine d t) (hn : 0 ≤ n) : Fine (d + 1) (.mk 6 n [t]) := by
  obtain ⟨h1, h2, h3⟩ := listL (d := d) (ts := [t]) (by intro x hx; simp at hx; subst hx; exact h)
  simp only [List.length_cons, List.length_nil] at h2
  refine ⟨?_, ?_, ?_⟩
  · rw [depthT_mk]; omega
  · rw [nodesT_mk]; simp only [nb]; omega
  · rw [formsT_mk, h3]; simp [formN, hn]
theorem fine_sign {d : Nat} {t : Tm} {n : Int} (h : Fine d t) (hn : 0 ≤ n) : Fine (d + 1) (.mk 8 n [t]) := by
  obtain ⟨h1, h2, h3⟩ := listL (d := d) (ts := [t]) (by intro x hx; simp at hx; subst hx; exact h)
  simp only [List.length_cons, List.length_nil] at h2
  refine ⟨?_, ?_, ?_⟩
  · rw [depthT_mk]; omega
  · rw [nodesT_mk]; simp only [nb]; omega
  · rw [formsT_mk, h3]; simp [formN, hn]
theorem fine_public {d : Nat} {t : Tm} (h : Fine d t) : Fine (d + 1) (.mk 4 0 [t]) := by
  obtain ⟨h1, h2, h3⟩ := listL (d := d) (ts := [t]) (by intro x hx; simp at hx; subst hx; exact h)
  simp only [List.length_cons, List.length_nil] at h2
  refine ⟨?_, ?_, ?_⟩
  · rw [depthT_mk]; omega
  · rw [nodesT_mk]; simp only [nb]; omega
  · rw [formsT_mk, h3]; simp [formN]
theorem fine_seal {d : Nat} {t u : Tm} (h : Fine d t) (k : Fine d u) : Fine (d + 1) (.mk 7 0 [t, u]) := by
  obtain ⟨h1, h2, h3⟩ := listL (d := d) (ts := [t, u]) (by intro x hx; simp at hx; rcases hx with rfl | rfl; exact h; exact k)
  simp only [List.length_cons, List.length_nil] at h2
  refine ⟨?_, ?_, ?_⟩
  · rw [depthT_mk]; omega
  · rw [nodesT_mk]; simp only [nb]; omega
  · rw [formsT_mk, h3]; simp [formN]
theorem fine_shared {d : Nat} {t u : Tm} (h : Fine d t) (k : Fine d u) (hl : lessT u t = false) : Fine (d + 1) (.mk 5 0 [t, u]) := by
  obtain ⟨h1, h2, h3⟩ := listL (d := d) (ts := [t, u]) (by intro x hx; simp at hx; rcases hx with rfl | rfl; exact h; exact k)
  simp only [List.length_cons, List.length_nil] at h2
  refine ⟨?_, ?_, ?_⟩
  · rw [depthT_mk]; omega
  · rw [nodesT_mk]; simp only [nb]; omega
  · rw [formsT_mk, h3]; simp [formN, hl]
end Go.Proofs.Ytddiclnkfhldlaa
