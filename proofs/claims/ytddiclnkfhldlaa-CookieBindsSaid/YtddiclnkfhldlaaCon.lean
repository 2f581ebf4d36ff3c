/-
  The contracts of the reference's constructors of terms: the term that each makes lies in memory as a tree.
  Conditions: the terms that come in lie in memory as a tree.
-/
import Derived.Test.YtddiclnkfhldlaaTrS
import Derived.OwnWalk
import Derived.Laws.AppendOwn
namespace Go.Proofs.Ytddiclnkfhldlaa
open Go.RowKit Go.Sort
set_option linter.unusedVariables false
theorem rnumber_any (S : Nat → Prop) (n : Int) (w : World) (hn : fits n) :
    Calls Try.prog 51 #[.int .i64 n] w (MkPost S w (.mk 1 n [])) := by
  go_enter Try.func51, Try.ntmps51
  go_wp2_with fail
  exact bodyPost_ret (v := .agg #[.int .i64 1, .int .i64 n, .slice none 0 0]) (by simp [results, Try.results51, go_sem]) rfl ⟨none, 0, rfl, TrS.leaf _ _ _ _ _ _ (fn (by omega) (by omega)) hn (Nat.zero_le _), (Below.refl _ _).alloc (Nat.le_refl _) _⟩
theorem rpublic_any (S : Nat → Prop) (t : Tm) (w : World) (A : Option Addr) (c : Nat) (ht : TrS S w t A c) :
    Calls Try.prog 54 #[.agg #[.int .i64 t.op, .int .i64 t.val, .slice A t.args.length c]] w (MkPost S w (.mk 4 0 [t])) := by
  go_enter Try.func54, Try.ntmps54
  go_wp2_with fail
  have hb := heap_alloc_new ((w.alloc (Obj.cells #[.int .i64 t.op, .int .i64 t.val, .slice A t.args.length c] 30)).alloc (Obj.cells #[.int .i64 4, .int .i64 0, .slice (some ⟨w.heap.size + 1 + 1, 0, none⟩) 1 1] 30)) (Obj.cells #[.int .i64 t.op, .int .i64 t.val, .slice A t.args.length c] 30)
  simp only [World.size_alloc] at hb
  exact bodyPost_ret (v := .agg #[.int .i64 4, .int .i64 0, .slice (some ⟨w.heap.size + 1 + 1, 0, none⟩) 1 1]) (by simp [results, Try.results54, go_sem]) rfl ⟨_, 1, rfl, TrS.one hb (.inr (by omega)) (((ht.sn.alloc _).alloc _).alloc _) (fn (by omega) (by omega)) f0, (((Below.refl _ _).alloc (Nat.le_refl _) _).alloc (by simp) _).alloc (by simp; omega) _⟩
theorem rsign_any (S : Nat → Prop) (n : Int) (hn : fits n) (t : Tm) (w : World) (A : Option Addr) (c : Nat) (ht : TrS S w t A c) :
    Calls Try.prog 57 #[.int .i64 n, .agg #[.int .i64 t.op, .int .i64 t.val, .slice A t.args.length c]] w (MkPost S w (.mk 8 n [t])) := by
  go_enter Try.func57, Try.ntmps57
  go_wp2_with fail
  have hb := heap_alloc_new ((w.alloc (Obj.cells #[.int .i64 t.op, .int .i64 t.val, .slice A t.args.length c] 30)).alloc (Obj.cells #[.int .i64 8, .int .i64 n, .slice (some ⟨w.heap.size + 1 + 1, 0, none⟩) 1 1] 30)) (Obj.cells #[.int .i64 t.op, .int .i64 t.val, .slice A t.args.length c] 30)
  simp only [World.size_alloc] at hb
  exact bodyPost_ret (v := .agg #[.int .i64 8, .int .i64 n, .slice (some ⟨w.heap.size + 1 + 1, 0, none⟩) 1 1]) (by simp [results, Try.results57, go_sem]) rfl ⟨_, 1, rfl, TrS.one hb (.inr (by omega)) (((ht.sn.alloc _).alloc _).alloc _) (fn (by omega) (by omega)) hn, (((Below.refl _ _).alloc (Nat.le_refl _) _).alloc (by simp) _).alloc (by simp; omega) _⟩
theorem rseal_any (S : Nat → Prop) (t u : Tm) (w : World) (A B : Option Addr) (c d : Nat) (ht : TrS S w t A c) (hu : TrS S w u B d) :
    Calls Try.prog 56 #[.agg #[.int .i64 t.op, .int .i64 t.val, .slice A t.args.length c], .agg #[.int .i64 u.op, .int .i64 u.val, .slice B u.args.length d]] w (MkPost S w (.mk 7 0 [t, u])) := by
  go_enter Try.func56, Try.ntmps56
  go_wp2_with fail
  have hb := heap_alloc_new (((w.alloc (Obj.cells #[.int .i64 t.op, .int .i64 t.val, .slice A t.args.length c] 30)).alloc (Obj.cells #[.int .i64 u.op, .int .i64 u.val, .slice B u.args.length d] 30)).alloc (Obj.cells #[.int .i64 7, .int .i64 0, .slice (some ⟨w.heap.size + 1 + 1 + 1, 0, none⟩) 2 2] 30)) (Obj.cells #[.int .i64 t.op, .int .i64 t.val, .slice A t.args.length c, .int .i64 u.op, .int .i64 u.val, .slice B u.args.length d] 30)
  simp only [World.size_alloc] at hb
  exact bodyPost_ret (v := .agg #[.int .i64 7, .int .i64 0, .slice (some ⟨w.heap.size + 1 + 1 + 1, 0, none⟩) 2 2]) (by simp [results, Try.results56, go_sem]) rfl ⟨_, 2, rfl, TrS.two hb (.inr (by omega)) ((((ht.sn.alloc _).alloc _).alloc _).alloc _) ((((hu.sn.alloc _).alloc _).alloc _).alloc _) (fn (by omega) (by omega)) f0, ((((Below.refl _ _).alloc (Nat.le_refl _) _).alloc (by simp) _).alloc (by simp; omega) _).alloc (by simp; omega) _⟩
/-! ### Lists of terms, flat -/
/-- The cells of the terms of a list, one behind the other. -/
inductive Flat (S : Nat → Prop) (w : World) : List Tm → List Value → Prop
  | nil : Flat S w [] []
  | cons {t : Tm} {ts : List Tm} {xs : List Value} {A : Option Addr} {c : Nat} (h : TrS S w t A c) (k : Flat S w ts xs) : Flat S w (t :: ts) (.int .i64 t.op :: .int .i64 t.val :: .slice A t.args.length c :: xs)
section
variable {S : Nat → Prop} {w w' : World} {ts us : List Tm} {xs ys : List Value}
theorem Flat.len (h : Flat S w ts xs) : xs.length = ts.length * 3 := by
  induction h with
  | nil => rfl
  | cons _ _ ih => simp [ih]; omega
theorem Flat.map (h : Flat S w ts xs) (f : ∀ t A c, TrS S w t A c → TrS S w' t A c) : Flat S w' ts xs := by
  induction h with
  | nil => exact .nil
  | cons h k ih => exact .cons (f _ _ _ h) ih
theorem Flat.bel (h : Flat S w ts xs) (hb : Below w.heap.size w w') : Flat S w' ts xs := h.map fun _ _ _ k => k.bel hb
theorem Flat.append (h : Flat S w ts xs) (k : Flat S w us ys) : Flat S w (ts ++ us) (xs ++ ys) := by
  induction h with
  | nil => exact k
  | cons h _ ih => exact .cons h ih
theorem Flat.one' (h : Flat S w ts xs) : ∀ u ∈ xs, u.oneCell' = true := by
  induction h with
  | nil => intro u hu; cases hu
  | cons h k ih =>
    intro u hu
    rcases List.mem_cons.1 hu with rfl | hu
    · rfl
    rcases List.mem_cons.1 hu with rfl | hu
    · rfl
    rcases List.mem_cons.1 hu with rfl | hu
    · rfl
    exact ih u hu
theorem Flat.at (h : Flat S w ts xs) : ∀ (i : Nat) (hi : i < ts.length), ∃ A c, TrS S w (ts[i]) A c ∧ xs[i * 3]? = some (.int .i64 (ts[i]).op) ∧ xs[i * 3 + 1]? = some (.int .i64 (ts[i]).val) ∧ xs[i * 3 + 2]? = some (.slice A (ts[i]).args.length c) := by
  induction h with
  | nil => intro i hi; simp at hi
  | cons h k ih =>
    intro i hi
    match i with
    | 0 => exact ⟨_, _, h, rfl, rfl, rfl⟩
    | i + 1 =>
      obtain ⟨A, c, h0, h1, h2, h3⟩ := ih i (by simpa using hi)
      have e : (i + 1) * 3 = i * 3 + 3 := by omega
      refine ⟨A, c, by simpa using h0, ?_, ?_, ?_⟩ <;> (rw [e]; simpa using ‹_›)
end
/-- A slice of terms that the call has made holds them. -/
theorem TrS.of_own {S : Nat → Prop} {w : World} {base : Nat} {ts : List Tm} {xs : List Value} {o v : Int} {A : Option Addr} {c : Nat} (h : w.ownsRow base 30 3 (.slice A ts.length c) ts.length xs) (hf : Flat S w ts xs) (ho : fits o) (hv : fits v) :
    TrS (fun g => S g ∨ base ≤ g) w (.mk o v ts) A c := by
  rcases h.2 with ⟨h0, h1⟩ | ⟨g, cap, cur, hv', hb, hg, hn, hm, hs, ht⟩
  · injection h0 with e1 e2 e3
    subst e1; subst e3
    obtain rfl : ts = [] := List.length_eq_zero_iff.1 h1
    exact TrS.leaf _ w o v none 0 ho hv (Nat.zero_le _)
  · injection hv' with e1 e2 e3
    subst e1; subst e3
    have hcell : ∀ j u, xs[j]? = some u → w.cell? ⟨g, j, none⟩ = some u := by
      intro j u hj
      rw [← ht, List.getElem?_take] at hj
      split at hj
      · rw [cell_of_row w g j cur _ (0, 0) hg]
        simpa using hj
      · cases hj
    refine .mk (fun i => if hi : i < ts.length then (hf.at i hi).choose else none) (fun i => if hi : i < ts.length then (hf.at i hi).choose_spec.choose else 0) ho hv hn hm (fun i hi => ?_) (fun i hi => ?_)
    · obtain ⟨h0, h1, h2, h3⟩ := (hf.at i hi).choose_spec.choose_spec
      rw [dif_pos hi, dif_pos hi]
      exact ⟨g, 0, rfl, .inr hb, by rw [Nat.zero_add]; exact hcell _ _ h1, by rw [Nat.zero_add]; exact hcell _ _ h2, by rw [Nat.zero_add]; exact hcell _ _ h3⟩
    · obtain ⟨h0, h1, h2, h3⟩ := (hf.at i hi).choose_spec.choose_spec
      rw [dif_pos hi, dif_pos hi]
      exact h0.mono fun _ k => .inl k
/-- What lies in a slice of terms, flat. -/
theorem TrS.flat {S : Nat → Prop} {w : World} {o v : Int} {A : Option Addr} {c : Nat} : ∀ {ts : List Tm}, TrS S w (.mk o v ts) A c → ∃ xs, Flat S w ts xs ∧ ∀ j u, xs[j]? = some u → ∃ g k, A = some ⟨g, k, none⟩ ∧ w.cell? ⟨g, k + j, none⟩ = some u := by
  intro ts h
  have key : ∀ (n : Nat), n ≤ ts.length → ∃ xs, Flat S w (ts.drop n) xs ∧ ∀ j u, xs[j]? = some u → ∃ g k, A = some ⟨g, k, none⟩ ∧ w.cell? ⟨g, k + (n * 3 + j), none⟩ = some u := by
    intro n hn
    obtain ⟨m, hm⟩ : ∃ m, ts.length = n + m := ⟨ts.length - n, by omega⟩
    induction m generalizing n with
    | zero =>
      rw [List.drop_eq_nil_of_le (by omega)]
      exact ⟨[], .nil, fun j u hj => by simp at hj⟩
    | succ m ih =>
      obtain ⟨xs, hx, hc⟩ := ih (n + 1) (by omega) (by omega)
      have hlt : n < ts.length := by omega
      obtain ⟨g, k, AA, CC, hA, _, h0, h1, h2, h3⟩ := h.at n hlt
      rw [List.drop_eq_getElem_cons hlt]
      refine ⟨_, .cons h3 hx, fun j u hj => ?_⟩
      match j with
      | 0 => injection hj with hj; subst hj; exact ⟨g, k, hA, by rw [Nat.add_zero]; exact h0⟩
      | 1 => injection hj with hj; subst hj; exact ⟨g, k, hA, by rw [← Nat.add_assoc]; exact h1⟩
      | 2 => injection hj with hj; subst hj; exact ⟨g, k, hA, by rw [← Nat.add_assoc]; exact h2⟩
      | j + 3 =>
        obtain ⟨g', k', hA', hc'⟩ := hc j u (by simpa using hj)
        refine ⟨g', k', hA', ?_⟩
        have e : n * 3 + (j + 3) = (n + 1) * 3 + j := by omega
        rw [e]
        exact hc'
  obtain ⟨xs, h1, h2⟩ := key 0 (Nat.zero_le _)
  refine ⟨xs, h1, fun j u hj => ?_⟩
  obtain ⟨g, k, hA, hc⟩ := h2 j u hj
  exact ⟨g, k, hA, by simpa using hc⟩
theorem term_info : (Try.prog.info? 30).map (fun i => (i.zero, i.size, i.bytes)) = some (some (.agg #[.int .i64 0, .int .i64 0, .slice none 0 0]), 3, 40) := by kernel_rfl
theorem own_same {w w' : World} {base e size n : Nat} {v : Value} {xs : List Value} (h : w.ownsRow base e size v n xs) (hs : ∀ g, base ≤ g → g < w.heap.size → w'.heap[g]? = w.heap[g]?) : w'.ownsRow base e size v n xs := by
  refine ⟨h.1, ?_⟩
  rcases h.2 with h0 | ⟨g, cap, cur, hv, hb, hg, h1⟩
  · exact .inl h0
  · exact .inr ⟨g, cap, cur, hv, hb, (hs g hb (Array.getElem?_eq_some_iff.1 hg).1).trans hg, h1⟩
theorem own_put {w : World} {base e size n : Nat} {v : Value} {xs : List Value} (h : w.ownsRow base e size v n xs) {p : Addr} (hp : p.block < base) (u : Value) : (w.setCell p u).ownsRow base e size v n xs :=
  own_same h fun g hg _ => Below.heap_setCell w p u g (by omega)
theorem Blk.grown_none {w w' : World} {g : Nat} {t : TypeId} {cs : Array Value} (h : Blk w g t cs) (hg : w.grownBy w' (Value.ownBlock (.slice none 0 0))) : Blk w' g t cs := h.grown hg (by simp [Value.ownBlock])
theorem add_at (g k j : Nat) : (⟨g, k, none⟩ : Addr).add j = ⟨g, k + j, none⟩ := by
  unfold Addr.add
  split
  · rename_i h; subst h; rfl
  · rfl
theorem rlist_any (S : Nat → Prop) (ts : List Tm) (w : World) (A : Option Addr) (c : Nat) (ht : TrS S w (.mk 0 0 ts) A c) (hts : ts.length ≤ 1000000) :
    Calls Try.prog 53 #[.slice A ts.length c] w (MkPost S w (.mk 3 0 ts)) := by
  obtain ⟨i0, hi0, hz0, hz1, hz2⟩ := info_parts term_info
  have hfit := ht.ofits
  simp only [Tm.args_mk] at hfit
  have hcm := hfit.2.2.2
  have hcl := hfit.2.2.1
  clear hfit
  unfold maxLen at hcm
  rcases A with _ | ad
  · obtain rfl : ts = [] := by
      rcases ts with _ | ⟨t, ts⟩
      · rfl
      · obtain ⟨g, k, _, _, hA, _, _⟩ := ht.at 0 (by simp)
        cases hA
    clear ht
    go_enter Try.func53, Try.ntmps53
    go_wp2_with (at_builtin; refine wpList_append_own_none _ rfl (.const (.slice none 0 0)) (.tmp 3) 28 rfl (w.heap.size + 1) 30 i0 3 Try.underlying28 hi0 hz1 (.slice none 0 0) 0 [] rfl (World.ownsRow_nil _ _ _ _) _ rfl ?_)
    exact bodyPost_ret (v := .agg #[.int .i64 3, .int .i64 0, .slice none 0 0]) (by simp [results, Try.results53, go_sem]) rfl ⟨none, 0, rfl, TrS.leaf _ _ _ _ _ _ (fn (by omega) (by omega)) f0 (Nat.zero_le _), (Below.refl _ _).alloc (Nat.le_refl _) _⟩
  · obtain ⟨xs, hx, hc⟩ := ht.flat
    have hz := heap_alloc_new w (Obj.cells #[.int .i64 0, .int .i64 0, .slice none 0 0] 30)
    have hown0 := World.ownsRow_nil (w.alloc (Obj.cells #[.int .i64 0, .int .i64 0, .slice none 0 0] 30)) (w.heap.size + 1) 30 3
    have hlen := hx.len
    have hone := hx.one'
    have hnews : ∀ j u, xs[j]? = some u → (w.alloc (Obj.cells #[.int .i64 0, .int .i64 0, .slice none 0 0] 30)).cell? (ad.add j) = some u := by
      intro j u hj
      obtain ⟨g, k, hA, hcc⟩ := hc j u hj
      cases hA
      rw [add_at]
      exact cell_alloc hcc
    have h63 : 0 + ts.length ≤ maxLen := by unfold maxLen; omega
    have hbytes : (0 + ts.length) * 40 ≤ 140737488355328 := by omega
    have hbase : w.heap.size + 1 ≤ (w.alloc (Obj.cells #[.int .i64 0, .int .i64 0, .slice none 0 0] 30)).heap.size := by simp
    have HX := Lib.hid hx
    have HZ := Lib.hid hz
    clear hx hc hz ht
    go_enter Try.func53, Try.ntmps53
    go_wp2_with (at_builtin; refine wpList_append_own _ rfl (.const (.slice none 0 0)) (.tmp 3) 28 rfl (w.heap.size + 1) 30 i0 (.agg #[.int .i64 0, .int .i64 0, .slice none 0 0]) 3 40 Try.underlying28 hi0 hz0 hz1 hz2 rfl (by decide) (.slice none 0 0) 0 [] rfl hown0 ad ts.length c xs rfl hlen hnews hone h63 hbytes hbase ?_; intro v1 w1 hown1 hg1 _; simp only [Nat.zero_add, List.nil_append] at hown1; obtain ⟨A1, c1, hv1⟩ := own_form hown1; subst hv1; have HO := Lib.hid hown1; have HG := Lib.hid hg1; have z1 := Blk.grown_none HZ.out hg1; have c0 : w1.cell? ⟨w.heap.size, 0, none⟩ = some (.int .i64 0) := z1.cell 0; have c1' : w1.cell? ⟨w.heap.size, 1, none⟩ = some (.int .i64 0) := z1.cell 1; have c2 : w1.cell? ⟨w.heap.size, 2, none⟩ = some (.slice none 0 0) := z1.cell 2; have fz0 := z1.free 0; have fz1 := z1.free 1; have fz2 := z1.free 2; have HZ1 := Lib.hid z1; clear hown1 hg1 z1)
    have hz4 := ((HZ1.out.put 0 (.int .i64 3)).put 1 (.int .i64 0)).put 2 (.slice A1 ts.length c1)
    simp only [List.setIfInBounds_toArray, List.set_cons_zero, List.set_cons_succ] at hz4
    have ho4 : World.ownsRow (((w1.setCell ⟨w.heap.size, 0, none⟩ (.int .i64 3)).setCell ⟨w.heap.size, 1, none⟩ (.int .i64 0)).setCell ⟨w.heap.size, 2, none⟩ (.slice A1 ts.length c1)) (w.heap.size + 1) 30 3 (.slice A1 ts.length c1) ts.length xs := own_put (own_put (own_put HO.out (by simp) _) (by simp) _) (by simp) _
    have hb1 : Below w.heap.size w w1 := ((Below.refl _ _).alloc (Nat.le_refl _) _).grown HG.out (by simp) (by simp [Value.ownBlock])
    have hb4 : Below w.heap.size w (((w1.setCell ⟨w.heap.size, 0, none⟩ (.int .i64 3)).setCell ⟨w.heap.size, 1, none⟩ (.int .i64 0)).setCell ⟨w.heap.size, 2, none⟩ (.slice A1 ts.length c1)) := ((hb1.setCell (p := ⟨w.heap.size, 0, none⟩) (Nat.le_refl _) _).setCell (p := ⟨w.heap.size, 1, none⟩) (Nat.le_refl _) _).setCell (p := ⟨w.heap.size, 2, none⟩) (Nat.le_refl _) _
    have hf4 := HX.out.bel hb4
    generalize (((w1.setCell ⟨w.heap.size, 0, none⟩ (.int .i64 3)).setCell ⟨w.heap.size, 1, none⟩ (.int .i64 0)).setCell ⟨w.heap.size, 2, none⟩ (.slice A1 ts.length c1)) = w4 at *
    have d0 : w4.cell? ⟨w.heap.size, 0, none⟩ = some (.int .i64 3) := hz4.cell 0
    have d1 : w4.cell? ⟨w.heap.size, 1, none⟩ = some (.int .i64 0) := hz4.cell 1
    have d2 : w4.cell? ⟨w.heap.size, 2, none⟩ = some (.slice A1 ts.length c1) := hz4.cell 2
    exact bodyPost_ret (v := .agg #[.int .i64 3, .int .i64 0, .slice A1 ts.length c1]) (by simp [results, Try.results53, go_sem, d0, d1, d2]) rfl ⟨A1, c1, rfl, TrS.mono (TrS.of_own ho4 hf4 (fn (by omega) (by omega)) f0) (fun g k => k.elim .inl (fun k => .inr (by omega))), hb4⟩
theorem rderive_any (S : Nat → Prop) (n : Int) (hn : fits n) (ts : List Tm) (w : World) (A : Option Addr) (c : Nat) (ht : TrS S w (.mk 0 0 ts) A c) (hts : ts.length ≤ 1000000) :
    Calls Try.prog 43 #[.int .i64 n, .slice A ts.length c] w (MkPost S w (.mk 6 n ts)) := by
  obtain ⟨i0, hi0, hz0, hz1, hz2⟩ := info_parts term_info
  have hfit := ht.ofits
  simp only [Tm.args_mk] at hfit
  have hcm := hfit.2.2.2
  have hcl := hfit.2.2.1
  clear hfit
  unfold maxLen at hcm
  rcases A with _ | ad
  · obtain rfl : ts = [] := by
      rcases ts with _ | ⟨t, ts⟩
      · rfl
      · obtain ⟨g, k, _, _, hA, _, _⟩ := ht.at 0 (by simp)
        cases hA
    clear ht
    go_enter Try.func43, Try.ntmps43
    go_wp2_with (at_builtin; refine wpList_append_own_none _ rfl (.const (.slice none 0 0)) (.tmp 6) 28 rfl (w.heap.size + 1) 30 i0 3 Try.underlying28 hi0 hz1 (.slice none 0 0) 0 [] rfl (World.ownsRow_nil _ _ _ _) _ rfl ?_)
    exact bodyPost_ret (v := .agg #[.int .i64 6, .int .i64 n, .slice none 0 0]) (by simp [results, Try.results43, go_sem]) rfl ⟨none, 0, rfl, TrS.leaf _ _ _ _ _ _ (fn (by omega) (by omega)) hn (Nat.zero_le _), (Below.refl _ _).alloc (Nat.le_refl _) _⟩
  · obtain ⟨xs, hx, hc⟩ := ht.flat
    have hz := heap_alloc_new w (Obj.cells #[.int .i64 0, .int .i64 0, .slice none 0 0] 30)
    have hown0 := World.ownsRow_nil (w.alloc (Obj.cells #[.int .i64 0, .int .i64 0, .slice none 0 0] 30)) (w.heap.size + 1) 30 3
    have hlen := hx.len
    have hone := hx.one'
    have hnews : ∀ j u, xs[j]? = some u → (w.alloc (Obj.cells #[.int .i64 0, .int .i64 0, .slice none 0 0] 30)).cell? (ad.add j) = some u := by
      intro j u hj
      obtain ⟨g, k, hA, hcc⟩ := hc j u hj
      cases hA
      rw [add_at]
      exact cell_alloc hcc
    have h63 : 0 + ts.length ≤ maxLen := by unfold maxLen; omega
    have hbytes : (0 + ts.length) * 40 ≤ 140737488355328 := by omega
    have hbase : w.heap.size + 1 ≤ (w.alloc (Obj.cells #[.int .i64 0, .int .i64 0, .slice none 0 0] 30)).heap.size := by simp
    have HX := Lib.hid hx
    have HZ := Lib.hid hz
    clear hx hc hz ht
    go_enter Try.func43, Try.ntmps43
    go_wp2_with (at_builtin; refine wpList_append_own _ rfl (.const (.slice none 0 0)) (.tmp 6) 28 rfl (w.heap.size + 1) 30 i0 (.agg #[.int .i64 0, .int .i64 0, .slice none 0 0]) 3 40 Try.underlying28 hi0 hz0 hz1 hz2 rfl (by decide) (.slice none 0 0) 0 [] rfl hown0 ad ts.length c xs rfl hlen hnews hone h63 hbytes hbase ?_; intro v1 w1 hown1 hg1 _; simp only [Nat.zero_add, List.nil_append] at hown1; obtain ⟨A1, c1, hv1⟩ := own_form hown1; subst hv1; have HO := Lib.hid hown1; have HG := Lib.hid hg1; have z1 := Blk.grown_none HZ.out hg1; have c0 : w1.cell? ⟨w.heap.size, 0, none⟩ = some (.int .i64 0) := z1.cell 0; have c1' : w1.cell? ⟨w.heap.size, 1, none⟩ = some (.int .i64 0) := z1.cell 1; have c2 : w1.cell? ⟨w.heap.size, 2, none⟩ = some (.slice none 0 0) := z1.cell 2; have fz0 := z1.free 0; have fz1 := z1.free 1; have fz2 := z1.free 2; have HZ1 := Lib.hid z1; clear hown1 hg1 z1)
    have hz4 := ((HZ1.out.put 0 (.int .i64 6)).put 1 (.int .i64 n)).put 2 (.slice A1 ts.length c1)
    simp only [List.setIfInBounds_toArray, List.set_cons_zero, List.set_cons_succ] at hz4
    have ho4 : World.ownsRow (((w1.setCell ⟨w.heap.size, 0, none⟩ (.int .i64 6)).setCell ⟨w.heap.size, 1, none⟩ (.int .i64 n)).setCell ⟨w.heap.size, 2, none⟩ (.slice A1 ts.length c1)) (w.heap.size + 1) 30 3 (.slice A1 ts.length c1) ts.length xs := own_put (own_put (own_put HO.out (by simp) _) (by simp) _) (by simp) _
    have hb1 : Below w.heap.size w w1 := ((Below.refl _ _).alloc (Nat.le_refl _) _).grown HG.out (by simp) (by simp [Value.ownBlock])
    have hb4 : Below w.heap.size w (((w1.setCell ⟨w.heap.size, 0, none⟩ (.int .i64 6)).setCell ⟨w.heap.size, 1, none⟩ (.int .i64 n)).setCell ⟨w.heap.size, 2, none⟩ (.slice A1 ts.length c1)) := ((hb1.setCell (p := ⟨w.heap.size, 0, none⟩) (Nat.le_refl _) _).setCell (p := ⟨w.heap.size, 1, none⟩) (Nat.le_refl _) _).setCell (p := ⟨w.heap.size, 2, none⟩) (Nat.le_refl _) _
    have hf4 := HX.out.bel hb4
    generalize (((w1.setCell ⟨w.heap.size, 0, none⟩ (.int .i64 6)).setCell ⟨w.heap.size, 1, none⟩ (.int .i64 n)).setCell ⟨w.heap.size, 2, none⟩ (.slice A1 ts.length c1)) = w4 at *
    have d0 : w4.cell? ⟨w.heap.size, 0, none⟩ = some (.int .i64 6) := hz4.cell 0
    have d1 : w4.cell? ⟨w.heap.size, 1, none⟩ = some (.int .i64 n) := hz4.cell 1
    have d2 : w4.cell? ⟨w.heap.size, 2, none⟩ = some (.slice A1 ts.length c1) := hz4.cell 2
    exact bodyPost_ret (v := .agg #[.int .i64 6, .int .i64 n, .slice A1 ts.length c1]) (by simp [results, Try.results43, go_sem, d0, d1, d2]) rfl ⟨A1, c1, rfl, TrS.mono (TrS.of_own ho4 hf4 (fn (by omega) (by omega)) hn) (fun g k => k.elim .inl (fun k => .inr (by omega))), hb4⟩
end Go.Proofs.Ytddiclnkfhldlaa
