/-
  What a policy is asked: the first rule to protect, what Narrow finds, the template of a rule.
  Conditions: none.
-/
import Derived.Test.YtbfppnppijcnlaaGreatPolR
import Derived.Test.YtbfppnppijcnlaaGreatGwE
namespace Go.Proofs.YtbfppnppijcnlaaGreat
namespace Ab
open Go.RowKit
set_option linter.unusedVariables false
set_option linter.unusedSimpArgs false
set_option linter.unusedSimpArgs false
set_option maxRecDepth 100000
/-- A policy, its parts by their names; D: the numbers of its boxes. -/
structure RuS (v : Value) (DK : Nat → Prop) (wK : World) (l : List Nat) (W : Nat → Value) (ρ : Rho) (D : Nat → Nat → Nat → Int) : Prop where
  mem : l ∈ all28
  one : ∀ i, (W i).oneCell' = true
  rep : Rep W ρ (shS l) wK
  cl : Clean ρ (shS l)
  val : CR W ρ (shV l) v
  dk : ∀ i b, ρ.blk i = some b → DK b
  box : ∀ i k n, l[i]? = some k → n < nbK k → BoxP (D i n) ∧ ∀ j, j < 18 → W (200 + 40 * i + 20 * n + j) = .int (tagK j) (D i n j)
theorem RuK.parts {v : Value} {DK : Nat → Prop} {wK : World} (h : RuK v DK wK) : ∃ l W ρ D, RuS v DK wK l W ρ D := by
  obtain ⟨l, W, ρ, h1, h2, h3, h4, h5, h6, h7⟩ := h
  have key : ∀ i n, ∃ d : Nat → Int, ∀ k, l[i]? = some k → n < nbK k → BoxP d ∧ ∀ j, j < 18 → W (200 + 40 * i + 20 * n + j) = .int (tagK j) (d j) := by
    intro i n
    cases hk : l[i]? with
    | none => exact ⟨fun _ => 0, fun k e => by cases e⟩
    | some k =>
      by_cases hn : n < nbK k
      · obtain ⟨m, g1, g2⟩ := h7 i k n hk hn
        exact ⟨dgB m, fun k' _ _ => ⟨g1, g2⟩⟩
      · exact ⟨fun _ => 0, fun k' e hn' => by
          injection e with e
          subst e
          exact absurd hn' hn⟩
  exact ⟨l, W, ρ, fun i n => (key i n).choose, h1, h2, h3, h4, h5, h6, fun i k n hk hn => (key i n).choose_spec k hk hn⟩
/-- Memory that does not change is as it was. -/
noncomputable def Agree (DK : Nat → Prop) (wK w : World) : Prop := ∀ b, DK b → b < w.heap.size ∧ w.heap[b]? = wK.heap[b]?
theorem KP.agree {DK : Nat → Prop} {wK w : World} {ρ : Rho} (h : KP DK wK ρ w) : Agree DK wK w := fun b hb => ⟨h.lt b hb, h.eq b hb⟩
theorem e0n_ok {V : Nat → Value} (h1 : ∀ i, (V i).oneCell' = true) : EnvOK Tryz.prog V E0n ∧ ExtOK Tryz.prog V E0n :=
  ⟨env_ok (fun op a b z h => (by cases h)) (fun k i z h => (by cases h)) h1, noExt_ok rfl⟩
theorem f2_boxC {V : Nat → Value} {ρ : Rho} {n : Nat} {d : Nat → Int} {vs : List Value} (hV : ∀ j, j < 18 → V (n + j) = .int (tagK j) (d j)) (h : F2 (CR V ρ) (boxC n) vs) : vs = bx d := by
  match vs, h with
  | [x0, x1, x2, x3, x4, x5, x6, x7, x8, x9, x10, x11, x12, x13, x14, x15, x16, x17], h =>
    obtain ⟨h0, h1, h2, h3, h4, h5, h6, h7, h8, h9, h10, h11, h12, h13, h14, h15, h16, h17, _⟩ := h
    rw [show x0 = V (n + 0) from h0, show x1 = V (n + 1) from h1, show x2 = V (n + 2) from h2, show x3 = V (n + 3) from h3, show x4 = V (n + 4) from h4, show x5 = V (n + 5) from h5, show x6 = V (n + 6) from h6, show x7 = V (n + 7) from h7, show x8 = V (n + 8) from h8, show x9 = V (n + 9) from h9, show x10 = V (n + 10) from h10, show x11 = V (n + 11) from h11, show x12 = V (n + 12) from h12, show x13 = V (n + 13) from h13, show x14 = V (n + 14) from h14, show x15 = V (n + 15) from h15, show x16 = V (n + 16) from h16, show x17 = V (n + 17) from h17]
    rw [hV 0 (by omega), hV 1 (by omega), hV 2 (by omega), hV 3 (by omega), hV 4 (by omega), hV 5 (by omega), hV 6 (by omega), hV 7 (by omega), hV 8 (by omega), hV 9 (by omega), hV 10 (by omega), hV 11 (by omega), hV 12 (by omega), hV 13 (by omega), hV 14 (by omega), hV 15 (by omega), hV 16 (by omega), hV 17 (by omega)]
    rfl
theorem boxC_f2 {V : Nat → Value} {ρ : Rho} {n : Nat} {d : Nat → Int} (hV : ∀ j, j < 18 → V (n + j) = .int (tagK j) (d j)) : F2 (CR V ρ) (boxC n) (bx d) :=
  ⟨(hV 0 (by omega)).symm, (hV 1 (by omega)).symm, (hV 2 (by omega)).symm, (hV 3 (by omega)).symm, (hV 4 (by omega)).symm, (hV 5 (by omega)).symm, (hV 6 (by omega)).symm, (hV 7 (by omega)).symm, (hV 8 (by omega)).symm, (hV 9 (by omega)).symm, (hV 10 (by omega)).symm, (hV 11 (by omega)).symm, (hV 12 (by omega)).symm, (hV 13 (by omega)).symm, (hV 14 (by omega)).symm, (hV 15 (by omega)).symm, (hV 16 (by omega)).symm, (hV 17 (by omega)).symm, trivial⟩
section
variable {v : Value} {DK : Nat → Prop} {wK : World} {l : List Nat} {W : Nat → Value} {ρ : Rho} {D : Nat → Nat → Nat → Int}
theorem RuS.at (R : RuS v DK wK l W ρ D) {w : World} (hw : Agree DK wK w) : Rep W ρ (shS l) w := by
  refine ⟨fun i B hB => ?_, R.rep.inj, fun i b hb => (hw b (R.dk i b hb)).1, R.rep.lt⟩
  obtain ⟨b, cs, h1, h2, h3⟩ := R.rep.h i B hB
  exact ⟨b, cs, h1, (hw b (R.dk i b h1)).2.trans h2, h3⟩
theorem fst_ok : (all28.all fun l => (match l[fstP l]? with | some k => Nat.blt 0 (nbK k) && !(Nat.beq k 0) | none => false) && (Nat.ble l.length 4 && rfreeH 400 800 (shS l).heap)) = true := by kernel_rfl
theorem RuS.fst (R : RuS v DK wK l W ρ D) : ∃ k, l[fstP l]? = some k ∧ 0 < nbK k ∧ k ≠ 0 := by
  have := List.all_eq_true.1 fst_ok l R.mem
  simp only [Bool.and_eq_true] at this
  obtain ⟨h, _⟩ := this
  split at h
  · rename_i k hk
    simp only [Bool.and_eq_true, Bool.not_eq_true'] at h
    refine ⟨k, hk, Nat.le_of_ble_eq_true h.1, fun e => ?_⟩
    rw [e] at h
    cases h.2
  · cases h
theorem gwAny_f2 {V : Nat → Value} {ρ : Rho} {x : AC} {cs : List Value} (hlen : cs.length = 19) (hone : ∀ u ∈ cs, u.oneCell' = true) {u : Value} (h4 : cs[4]? = some u) (hu : CR V ρ x u) : F2 (CR V ρ) (gwAny x) cs := by
  match cs, hlen with
  | [x0, x1, x2, x3, x4, x5, x6, x7, x8, x9, x10, x11, x12, x13, x14, x15, x16, x17, x18], _ =>
    have e : x4 = u := by simpa using h4
    refine ⟨hone _ (by simp), hone _ (by simp), hone _ (by simp), hone _ (by simp), by rw [e]; exact hu, hone _ (by simp), hone _ (by simp), hone _ (by simp), hone _ (by simp), hone _ (by simp), hone _ (by simp), hone _ (by simp), hone _ (by simp), hone _ (by simp), hone _ (by simp), hone _ (by simp), hone _ (by simp), hone _ (by simp), hone _ (by simp), trivial⟩
/-- The first rule to protect. -/
theorem prot_any (R : RuS v DK wK l W ρ D) {w : World} (hw : Agree DK wK w) {cs : Array Value} (hlen : cs.toList.length = 19) (hone : ∀ u ∈ cs.toList, u.oneCell' = true) (h4 : cs.toList[4]? = some v) :
    Calls Tryz.prog 147 #[.agg cs] w fun e w' => e = .returned (.tuple #[.int .i64 (fstP l : Nat), .agg (bx (D (fstP l) 0)).toArray, .bool true]) ∧ RowKit.Below w.heap.size w w' := by
  obtain ⟨k, hk, hn, _⟩ := R.fst
  obtain ⟨_, hbox⟩ := R.box _ k 0 hk hn
  have hrun := List.all_eq_true.1 protR_all l R.mem
  obtain ⟨e1, e2⟩ := e0n_ok R.one
  unfold protR at hrun
  split at hrun
  · rename_i i m s hr
    simp only [Bool.and_eq_true, decide_eq_true_eq] at hrun
    obtain ⟨hi, hm, hd⟩ := hrun
    have hm := eqCL_eq hm
    have hv : F2 (VR W ρ) [.one (.agg (gwAny (shV l)))] (#[.agg cs] : Array Value).toList := ⟨⟨cs, rfl, gwAny_f2 hlen hone h4 R.val⟩, trivial⟩
    refine (fnA_ok e1 e2 60 _ _ _ _ s hr ρ w _ hv (R.at hw) (R.cl.free _)).mono ?_
    rintro e w' ⟨c, ρ', rfl, hg, hc⟩
    obtain ⟨vs, rfl, hvs⟩ := hc
    refine ⟨?_, same_world hg (List.isEmpty_iff.1 hd)⟩
    match hl : vs.toList, hvs with
    | [x, y, z], hvs =>
      obtain ⟨hx, ⟨ds, rfl, hds⟩, hz, _⟩ := hvs
      have hx : x = .int .i64 i := hx
      have hz : z = .bool true := hz
      rw [hm] at hds
      have e := f2_boxC (d := D (fstP l) 0) (fun j hj => by have := hbox j hj; simpa using this) hds
      have : vs = #[.int .i64 (fstP l : Nat), .agg (bx (D (fstP l) 0)).toArray, .bool true] := by
        apply Array.ext'
        rw [hl, hx, hz, hi]
        have : ds = (bx (D (fstP l) 0)).toArray := Array.ext' (by rw [e])
        rw [this]
      rw [this]
  · cases hrun
/-! The template of a rule -/
theorem rowRu_at : ∀ {l : List Nat} {s i k : Nat}, l[i]? = some k → (rowRu s l)[3 * i + 1]? = some (.str (strK k))
  | x :: r, s, 0, k, h => by
    simp only [List.getElem?_cons_zero, Option.some.injEq] at h
    subst h
    match x with
    | 0 => rfl
    | x + 1 => rfl
  | x :: r, s, i + 1, k, h => by
    have ih := rowRu_at (l := r) (s := s + 1) (i := i) (k := k) (by simpa using h)
    have h3 : (ruleC s x).length = 3 := by
      match x with
      | 0 => rfl
      | x + 1 => rfl
    show (ruleC s x ++ rowRu (s + 1) r)[3 * (i + 1) + 1]? = _
    rw [List.getElem?_append_right (by rw [h3]; omega), h3, show 3 * (i + 1) + 1 - 3 = 3 * i + 1 by omega]
    exact ih
  | [], s, i, k, h => by simp at h
theorem RuS.row (R : RuS v DK wK l W ρ D) : ∃ b cap, v = .slice (some ⟨b, 0, none⟩) l.length cap ∧ ∀ i k, l[i]? = some k → ∀ w, Agree DK wK w → w.cell? ⟨b, 3 * i + 1, none⟩ = some (.string (strK k)) := by
  obtain ⟨b, cap, hb, hcap, hle, hv⟩ := R.val
  refine ⟨b, cap, hv, fun i k hk w hw => ?_⟩
  have hr := R.at hw
  have hB : look (shS l).heap 1 = some ⟨170, rowRu 0 l, some (1, 3)⟩ := by
    show look ((1, _) :: _) 1 = _
    rw [look_cons, if_pos rfl]
  have hs : sub (rowRu 0 l) (3 * i + 1) 1 = some [.str (strK k)] := by
    have h1 := rowRu_at (s := 0) hk
    unfold sub
    have : ∀ (L : List AC) (n : Nat) (x : AC), L[n]? = some x → ltake (ldrop L n) 1 = some [x] := by
      intro L
      induction L with
      | nil => intro n x h; simp at h
      | cons y r ih =>
        intro n x h
        match n with
        | 0 =>
          simp only [List.getElem?_cons_zero, Option.some.injEq] at h
          subst h
          simp [ldrop_z, ldrop_n, ldrop_c, ltake_z, ltake_n, ltake_c]
        | n + 1 =>
          simp only [ldrop_z, ldrop_n, ldrop_c]
          exact ih n x (by simpa using h)
    exact this _ _ _ h1
  obtain ⟨ds, g1, g2, g3⟩ := load_sub W hr hB hb hs
  match ds, g1, g2, g3 with
  | [u], _, g2, g3 =>
    have h := g3 0 u rfl
    have hu : u = .string (strK k) := g2.1
    have ha : (⟨b, 3 * i + 1, none⟩ : Addr).add 0 = ⟨b, 3 * i + 1, none⟩ := by simp [Addr.add]
    rw [ha] at h
    rw [h, hu]
noncomputable def tyCk : Bool := match E0n.ty 26, E0n.ty 170, E0n.ty 9 with
  | some ti, some te, some ts => (match ti.desc with | .slice e => Nat.beq e 170 | _ => false) && (Nat.beq te.size 3 && ((match te.desc with
    | .struct fs => (match fs[1]? with | some fd => Nat.beq fd.offset 1 && Nat.beq fd.type 9 | none => false)
    | _ => false) && (Nat.beq ts.size 1 && (match ts.desc with | .string => true | _ => false))))
  | _, _, _ => false
theorem tyCk_ok : tyCk = true := by kernel_rfl
theorem ty_rule : ∃ i0 z0 i1 z1 i2 z2, Tryz.prog.info? 26 = some i0 ∧ Tryz.prog.underlying 26 = some (.slice 170) ∧ i0.zero = some z0 ∧ Tryz.prog.info? 170 = some i1 ∧ i1.size = 3 ∧ i1.zero = some z1 ∧ (∃ fs fd, Tryz.prog.underlying 170 = some (.struct fs) ∧ fs[1]? = some fd ∧ fd.offset = 1 ∧ fd.type = 9) ∧ Tryz.prog.info? 9 = some i2 ∧ i2.size = 1 ∧ i2.zero = some z2 ∧ Tryz.prog.underlying 9 = some .string := by
  have h := tyCk_ok
  obtain ⟨hE, _⟩ := e0n_ok (V := fun _ => .bool true) (fun _ => rfl)
  unfold tyCk at h
  split at h
  · rename_i ti te ts h1 h2 h3
    simp only [Bool.and_eq_true] at h
    obtain ⟨k1, k2, k3, k4, k5⟩ := h
    obtain ⟨ii, z, a1, a2, a3, a4, a5, a6, a7⟩ := zero_ok hE h1 ρ0
    obtain ⟨ij, z', b1, b2, b3, b4, b5, b6, b7⟩ := zero_ok hE h2 ρ0
    obtain ⟨ik, z'', c1, c2, c3, c4, c5, c6, c7⟩ := zero_ok hE h3 ρ0
    refine ⟨ii, z, ij, z', ik, z'', a1, ?_, a4, b1, ?_, b4, ?_, c1, ?_, c4, ?_⟩
    · rw [a7]
      split at k1
      · rename_i e he
        rw [he, Nat.eq_of_beq_eq_true k1]
      · cases k1
    · rw [b2, Nat.eq_of_beq_eq_true k2]
    · split at k3
      · rename_i fs hfs
        split at k3
        · rename_i fd hfd
          simp only [Bool.and_eq_true] at k3
          exact ⟨fs, fd, by rw [b7, hfs], hfd, Nat.eq_of_beq_eq_true k3.1, Nat.eq_of_beq_eq_true k3.2⟩
        · cases k3
      · cases k3
    · rw [c2, Nat.eq_of_beq_eq_true k4]
    · rw [c7]
      split at k5
      · rename_i hd
        rw [hd]
      · cases k5
  · cases h
theorem addr_add (b off m : Nat) : (⟨b, off, none⟩ : Addr).add m = ⟨b, off + m, none⟩ := by
  unfold Addr.add
  split <;> simp_all
theorem deep_idx {b n cap i : Nat} (hi : i < n) (w : World) : DeepIs Tryz.prog (3 * 26 + 1) #[.slice (some ⟨b, 0, none⟩) n cap, .int .i64 (i : Nat)] w (.pointer (some ⟨b, 3 * i, none⟩)) := by
  obtain ⟨i0, z0, i1, z1, i2, z2, a1, a2, a3, b1, b2, b3, ⟨fs, fd, b4, b5, b6, b7⟩, c1, c2, c3, c4⟩ := ty_rule
  intro ev o ho
  unfold DeepOp at ho
  split at ho
  · obtain ⟨hk, _⟩ := ho
    omega
  · rename_i ty x ix hop
    obtain ⟨hk, hv⟩ := ho
    have hk : ty = 26 := by
      have h : (3 * 26 + 1 : Nat) = 3 * (show Nat from ty) + 1 := hk
      exact (show (show Nat from ty) = 26 by omega)
    subst hk
    have e1 : ev x = .slice (some ⟨b, 0, none⟩) n cap := by
      have := congrArg (fun a : Array Value => a.toList[0]?) hv
      simpa using this.symm
    have e2 : ev ix = .int .i64 (i : Nat) := by
      have := congrArg (fun a : Array Value => a.toList[1]?) hv
      simpa using this.symm
    have hin : (0 : Int) ≤ (i : Nat) ∧ ((i : Nat) : Int) < (n : Nat) := ⟨by omega, by omega⟩
    simp [execOp, hop, e1, e2, Instr.indexAt, asIntOf, run_underlying a2, sizeOf, typeInfo, b1, b2, hin, addr_add, hi, Nat.mul_comm]
  · obtain ⟨hk, _⟩ := ho
    omega
  · exact ho.elim
theorem deep_fld {b off : Nat} (w : World) : DeepIs Tryz.prog (3 * 170 + 2) #[.pointer (some ⟨b, off, none⟩), .int .i64 1] w (.pointer (some ⟨b, off + 1, none⟩)) := by
  obtain ⟨i0, z0, i1, z1, i2, z2, a1, a2, a3, b1, b2, b3, ⟨fs, fd, b4, b5, b6, b7⟩, c1, c2, c3, c4⟩ := ty_rule
  intro ev o ho
  unfold DeepOp at ho
  split at ho
  · obtain ⟨hk, _⟩ := ho
    omega
  · obtain ⟨hk, _⟩ := ho
    omega
  · rename_i st x f hop
    obtain ⟨hk, hv⟩ := ho
    have hk : st = 170 := by
      have h : (3 * 170 + 2 : Nat) = 3 * (show Nat from st) + 2 := hk
      exact (show (show Nat from st) = 170 by omega)
    subst hk
    have e1 : ev x = .pointer (some ⟨b, off, none⟩) := by
      have := congrArg (fun a : Array Value => a.toList[0]?) hv
      simpa using this.symm
    have e2 : f = 1 := by
      have := congrArg (fun a : Array Value => a.toList[1]?) hv
      have : ((1 : Int)) = (f : Int) := by simpa using this
      omega
    subst e2
    simp [execOp, hop, e1, Instr.fieldAt, run_underlying b4, b5, Instr.sureAddr, fieldPlace, sizeOf, typeInfo, b6, b7, c1, c2, addr_add]
  · exact ho.elim
theorem deep_str {b off : Nat} {w : World} {s : ByteArray} (h : w.cell? ⟨b, off, none⟩ = some (.string s)) : DeepIs Tryz.prog (3 * 9) #[.pointer (some ⟨b, off, none⟩)] w (.string s) := by
  obtain ⟨i0, z0, i1, z1, i2, z2, a1, a2, a3, b1, b2, b3, ⟨fs, fd, b4, b5, b6, b7⟩, c1, c2, c3, c4⟩ := ty_rule
  intro ev o ho
  unfold DeepOp at ho
  split at ho
  · rename_i ty x hop
    obtain ⟨hk, hv⟩ := ho
    have hk : ty = 9 := by
      have h : (3 * 9 : Nat) = 3 * (show Nat from ty) := hk
      exact (show (show Nat from ty) = 9 by omega)
    subst hk
    have e1 : ev x = .pointer (some ⟨b, off, none⟩) := by
      have := congrArg (fun a : Array Value => a.toList[0]?) hv
      simpa using this.symm
    have hl : (loadVar 9 ⟨b, off, none⟩).run Tryz.prog w = .ok (.string s) w := by
      unfold loadVar
      simp only [Sem.run_bind, run_isAgg' w c4, Result.andThen_ok]
      simp [isAggD, load, Sem.run, h]
    simp [execOp, hop, e1, Instr.loadAt, Instr.sureAddr, hl]
  · obtain ⟨hk, _⟩ := ho
    omega
  · obtain ⟨hk, _⟩ := ho
    omega
  · exact ho.elim
end
end Ab
end Go.Proofs.YtbfppnppijcnlaaGreat
namespace Go.Proofs.YtbfppnppijcnlaaGreat
namespace Ab
open Go.RowKit
set_option linter.unusedVariables false
set_option linter.unusedSimpArgs false
set_option maxRecDepth 100000
noncomputable def nV (W : Nat → Value) (d : Nat → Int) (D : Nat → Nat → Nat → Int) (j : Nat) : Value :=
  if 400 ≤ j ∧ j < 418 then .int (tagK (j - 400)) (d (j - 400)) else
  if 600 ≤ j ∧ j < 800 then .int (tagK ((j - 600) % 20)) (meetD (swapD d) (D ((j - 600) / 40) (((j - 600) % 40) / 20)) ((j - 600) % 20)) else W j
theorem nV_one {W : Nat → Value} {d : Nat → Int} {D : Nat → Nat → Nat → Int} (h : ∀ i, (W i).oneCell' = true) (j : Nat) : (nV W d D j).oneCell' = true := by
  unfold nV
  split
  · rfl
  · split
    · rfl
    · exact h j
theorem candCk : (all28.all fun l => [1, 2].all fun t => (candOf t 0 l).all fun x => (match l[x.1]? with | some k => !(Nat.beq k 0) && (Nat.blt x.2 (nbK k) && (Nat.beq (bif Nat.beq k 1 then 1 else 2) t && (Nat.blt x.1 4 && Nat.blt x.2 2))) | none => false)) = true := by kernel_rfl
theorem first_n (p : Nat → Bool) : ∀ n, ∃ j, j ≤ n ∧ (∀ k, k < j → p k = false) ∧ (j < n → p j = true)
  | 0 => ⟨0, Nat.le_refl _, fun k hk => absurd hk (Nat.not_lt_zero _), fun h => absurd h (Nat.not_lt_zero _)⟩
  | n + 1 => by
    obtain ⟨j, h1, h2, h3⟩ := first_n p n
    by_cases e : j < n
    · exact ⟨j, by omega, h2, fun _ => h3 e⟩
    · have : j = n := by omega
      subst this
      cases hp : p j
      · exact ⟨j + 1, by omega, fun k hk => by
          by_cases e' : k = j
          · rw [e', hp]
          · exact h2 k (by omega), fun h => absurd h (by omega)⟩
      · exact ⟨j, by omega, h2, fun _ => hp⟩
theorem tagK_sw {i : Nat} (h : i < 18) : tagK (sw i) = tagK i ∧ sw i < 18 := by
  rcases (by omega : i = 0 ∨ i = 1 ∨ i = 2 ∨ i = 3 ∨ i = 4 ∨ i = 5 ∨ i = 6 ∨ i = 7 ∨ i = 8 ∨ i = 9 ∨ i = 10 ∨ i = 11 ∨ i = 12 ∨ i = 13 ∨ i = 14 ∨ i = 15 ∨ i = 16 ∨ i = 17) with rfl | rfl | rfl | rfl | rfl | rfl | rfl | rfl | rfl | rfl | rfl | rfl | rfl | rfl | rfl | rfl | rfl | rfl <;> exact ⟨rfl, by decide⟩
theorem f2_swapL {V : Nat → Value} {ρ : Rho} {n : Nat} {d : Nat → Int} {vs : List Value} (hV : ∀ j, j < 18 → V (n + j) = .int (tagK j) (d j)) (h : F2 (CR V ρ) (swapL n) vs) : vs = bx (swapD d) := by
  unfold swapL at h
  unfold bx
  have hm : ∀ i ∈ List.range 18, i < 18 := fun i hi => List.mem_range.1 hi
  generalize List.range 18 = l at h hm
  induction l generalizing vs with
  | nil => match vs, h with | [], _ => rfl
  | cons x r ih =>
    match vs, h with
    | y :: s, h =>
      have hx := hm x (by simp)
      obtain ⟨t1, t2⟩ := tagK_sw hx
      rw [List.map_cons, ← ih h.2 (fun i hi => hm i (by simp [hi])), show y = V (n + sw x) from h.1, hV _ t2, t1]
      rfl
theorem zL_f2 {V : Nat → Value} {ρ : Rho} : F2 (CR V ρ) zL (bx fun _ => 0) := by
  unfold zL bx
  generalize List.range 18 = l
  induction l with
  | nil => trivial
  | cons x r ih => exact ⟨rfl, ih⟩
theorem f2_zL {V : Nat → Value} {ρ : Rho} {vs : List Value} (h : F2 (CR V ρ) zL vs) : vs = bx fun _ => 0 := by
  unfold zL at h
  unfold bx
  generalize List.range 18 = l at h
  induction l generalizing vs with
  | nil => match vs, h with | [], _ => rfl
  | cons x r ih => match vs, h with | y :: s, h => rw [List.map_cons, ← ih h.2, show y = Value.int (tagK x) 0 from h.1]
section
variable {v : Value} {DK : Nat → Prop} {wK : World} {l : List Nat} {W : Nat → Value} {ρ : Rho} {D : Nat → Nat → Nat → Int} {d : Nat → Int}
theorem RuS.cand (R : RuS v DK wK l W ρ D) {t i n : Nat} (ht : t = 1 ∨ t = 2) (h : (i, n) ∈ candOf t 0 l) : ∃ k, l[i]? = some k ∧ k ≠ 0 ∧ n < nbK k ∧ strK k = strK t ∧ i < 4 ∧ n < 2 := by
  have h1 := List.all_eq_true.1 candCk l R.mem
  have h2 := List.all_eq_true.1 h1 t (by rcases ht with rfl | rfl <;> simp)
  have h3 := List.all_eq_true.1 h2 _ h
  simp only at h3
  split at h3
  · rename_i k hk
    simp only [Bool.and_eq_true, Bool.not_eq_true'] at h3
    obtain ⟨g1, g2, g3, g4, g5⟩ := h3
    have hk0 : k ≠ 0 := fun e => by rw [e] at g1; cases g1
    refine ⟨k, hk, hk0, Nat.le_of_ble_eq_true g2, ?_, Nat.le_of_ble_eq_true g4, Nat.le_of_ble_eq_true g5⟩
    have g3 := Nat.eq_of_beq_eq_true g3
    match k, hk0 with
    | 1, _ => rw [← g3]; rfl
    | k + 2, _ =>
      have : t = 2 := by rw [← g3]; rfl
      rw [this]
      rfl
  · cases h3
theorem nV_400 {j : Nat} (hj : j < 18) : nV W d D (400 + j) = .int (tagK j) (d j) := by
  unfold nV
  rw [if_pos (by omega), show 400 + j - 400 = j by omega]
theorem nV_600 {i n j : Nat} (hi : i < 4) (hn : n < 2) (hj : j < 18) : nV W d D (600 + 40 * i + 20 * n + j) = .int (tagK j) (meetD (swapD d) (D i n) j) := by
  unfold nV
  rw [if_neg (by omega), if_pos (by omega), show (600 + 40 * i + 20 * n + j - 600) % 20 = j by omega, show (600 + 40 * i + 20 * n + j - 600) / 40 = i by omega, show (600 + 40 * i + 20 * n + j - 600) % 40 / 20 = n by omega]
theorem nV_200 {i n j : Nat} (hi : i < 4) (hn : n < 2) (hj : j < 18) : nV W d D (200 + 40 * i + 20 * n + j) = W (200 + 40 * i + 20 * n + j) := by
  unfold nV
  rw [if_neg (by omega), if_neg (by omega)]
/-- Have the boxes at place p of the list something in common? -/
noncomputable def nOk (c : List (Nat × Nat)) (d : Nat → Int) (D : Nat → Nat → Nat → Int) (p : Nat) : Bool := match c[p]? with | some (i, n) => meetOk (swapD d) (D i n) | none => false
theorem extN_ok (R : RuS v DK wK l W ρ D) {t : Nat} (ht : t = 1 ∨ t = 2) {j : Nat} (h1 : ∀ k, k < j → nOk (candOf t 0 l) d D k = false) (h2 : j < (candOf t 0 l).length → nOk (candOf t 0 l) d D j = true) : CallOK Tryz.prog (nV W d D) (extN (candOf t 0 l) j) := by
  intro f args s u s' h ρ1 w vals hargs hr hf
  unfold extN at h
  split at h
  · rename_i x y
    cases hb : (Nat.beq f 240 && eqCL x (swapL 400))
    · simp [hb] at h
    · simp only [hb, cond_true] at h
      simp only [Bool.and_eq_true] at hb
      have hf1 := Nat.eq_of_beq_eq_true hb.1
      have hx := eqCL_eq hb.2
      subst hf1
      subst hx
      split at h
      · rename_i p hp
        have hp1 := List.find?_some hp
        split at h
        · rename_i i n hc
          rw [hc] at hp1
          have hy := eqCL_eq hp1
          subst hy
          obtain ⟨k, hk, hk0, hnb, hstr, hi4, hn2⟩ := R.cand ht (List.mem_of_getElem? hc)
          obtain ⟨hbp, hbox⟩ := R.box i k n hk hnb
          cases hpj : Nat.ble p j
          · simp [hpj] at h
          · simp only [hpj, cond_true] at h
            have hpj := Nat.le_of_ble_eq_true hpj
            match hl : vals.toList, hargs with
            | [a, b], hargs =>
              obtain ⟨cs, rfl, hcs⟩ := hargs.1
              obtain ⟨ds, rfl, hds⟩ := hargs.2.1
              have e1 := f2_swapL (d := d) (fun j hj => nV_400 hj) hcs
              have e2 := f2_boxC (d := D i n) (fun j hj => by rw [nV_200 hi4 hn2 hj]; exact hbox j hj) hds
              have hvals : vals = #[.agg (bx (swapD d)).toArray, .agg (bx (D i n)).toArray] := by
                apply Array.ext'
                rw [hl]
                have h1 : cs = (bx (swapD d)).toArray := Array.ext' (by rw [e1])
                have h2 : ds = (bx (D i n)).toArray := Array.ext' (by rw [e2])
                rw [h1, h2]
              subst hvals
              refine (meet_any (swapD d) (D i n) w).mono ?_
              rintro e w' ⟨rfl, hbw⟩
              by_cases e : p = j
              · subst e
                have hj := h2 (List.getElem?_eq_some_iff.1 hc).1
                unfold nOk at hj
                rw [hc] at hj
                have hj : meetOk (swapD d) (D i n) = true := hj
                simp only [Nat.beq_refl, cond_true, Option.some.injEq, Prod.mk.injEq] at h
                obtain ⟨rfl, rfl⟩ := h
                have hm : meetV (swapD d) (D i n) = meetD (swapD d) (D i n) := by
                  funext q
                  unfold meetV
                  rw [if_pos hj]
                exact ⟨_, ρ1, rfl, goes_keep hr hbw, _, rfl, ⟨_, rfl, by rw [hm]; exact boxC_f2 (fun j hj => nV_600 hi4 hn2 hj)⟩, by rw [hj]; rfl, trivial⟩
              · have hj := h1 p (by omega)
                unfold nOk at hj
                rw [hc] at hj
                have hj : meetOk (swapD d) (D i n) = false := hj
                simp only [beq_no e, cond_false, Option.some.injEq, Prod.mk.injEq] at h
                obtain ⟨rfl, rfl⟩ := h
                have hm : meetV (swapD d) (D i n) = fun _ => 0 := by
                  funext q
                  unfold meetV
                  rw [hj]
                  rfl
                exact ⟨_, ρ1, rfl, goes_keep hr hbw, _, rfl, ⟨_, rfl, by rw [hm]; exact zL_f2⟩, by rw [hj]; rfl, trivial⟩
        · cases h
      · cases h
  · cases h
/-- What Narrow finds. -/
noncomputable def NarYes (v : Value) (DK : Nat → Prop) (wK : World) (d : Nat → Int) (t i : Nat) (m : Nat → Int) : Prop := ∀ w, Agree DK wK w → Calls Tryz.prog 218 #[v, .agg (bx d).toArray, .string (strK t)] w fun e w' => e = .returned (.tuple #[.int .i64 (i : Nat), .agg (bx m).toArray, .bool true]) ∧ RowKit.Below w.heap.size w w'
noncomputable def NarNo (v : Value) (DK : Nat → Prop) (wK : World) (d : Nat → Int) (t : Nat) : Prop := ∀ w, Agree DK wK w → Calls Tryz.prog 218 #[v, .agg (bx d).toArray, .string (strK t)] w fun e w' => e = .returned (.tuple #[.int .i64 0, .agg (bx fun _ => 0).toArray, .bool false]) ∧ RowKit.Below w.heap.size w w'
theorem nar_any (R : RuS v DK wK l W ρ D) (d : Nat → Int) {t : Nat} (ht : t = 1 ∨ t = 2) :
    (∃ i n k, l[i]? = some k ∧ k ≠ 0 ∧ strK k = strK t ∧ BoxP (D i n) ∧ meetOk (swapD d) (D i n) = true ∧ NarYes v DK wK d t i (meetD (swapD d) (D i n))) ∨ NarNo v DK wK d t := by
  obtain ⟨j, hj, h1, h2⟩ := first_n (nOk (candOf t 0 l) d D) (candOf t 0 l).length
  have hrun : narR l t j = true := by
    rcases ht with rfl | rfl
    · exact List.all_eq_true.1 (List.all_eq_true.1 narR_1 l R.mem) j (List.mem_range.2 (by omega))
    · exact List.all_eq_true.1 (List.all_eq_true.1 narR_2 l R.mem) j (List.mem_range.2 (by omega))
  have hone := nV_one (d := d) (D := D) R.one
  have e1 : EnvOK Tryz.prog (nV W d D) (envNar (candOf t 0 l) j) := env_ok (fun op a b z h => (by cases h)) (fun k i z h => (by cases h)) hone
  have e2 : ExtOK Tryz.prog (nV W d D) (envNar (candOf t 0 l) j) := onlyE_ok (extN_ok R ht h1 h2) rfl rfl
  have hfree : rfreeH 400 800 (shS l).heap = true := by
    have := List.all_eq_true.1 fst_ok l R.mem
    simp only [Bool.and_eq_true] at this
    exact this.2.2
  have hVW : ∀ i, (i < 400 ∨ 800 ≤ i) → W i = nV W d D i := fun i hi => by
    unfold nV
    rw [if_neg (by omega), if_neg (by omega)]
  have call : ∀ {w : World}, Agree DK wK w → ∀ {u : AV} {s' : St}, fnA (envNar (candOf t 0 l) j) 60 218 [.one (.c (shV l)), .one (.agg (boxC 400)), .one (.c (.str (strK t)))] (shS l) = some (u, s') → s'.dirty.isEmpty = true →
      Calls Tryz.prog 218 #[v, .agg (bx d).toArray, .string (strK t)] w fun e w' => ∃ c ρ', e = .returned c ∧ VR (nV W d D) ρ' u c ∧ RowKit.Below w.heap.size w w' := by
    intro w hw u s' hr hd
    have hrep := rep_raV hVW hfree (R.at hw)
    have hv : F2 (VR (nV W d D) ρ) [.one (.c (shV l)), .one (.agg (boxC 400)), .one (.c (.str (strK t)))] (#[v, .agg (bx d).toArray, .string (strK t)] : Array Value).toList := ⟨R.val, ⟨_, rfl, boxC_f2 (fun j hj => nV_400 hj)⟩, rfl, trivial⟩
    refine (fnA_ok e1 e2 60 _ _ _ _ s' hr ρ w _ hv hrep (R.cl.free _)).mono ?_
    rintro e w' ⟨c, ρ', rfl, hg, hc⟩
    exact ⟨c, ρ', rfl, hc, same_world hg (List.isEmpty_iff.1 hd)⟩
  unfold narR at hrun
  split at hrun
  · rename_i i m b s hr
    simp only [Bool.and_eq_true] at hrun
    obtain ⟨hd, hrun⟩ := hrun
    split at hrun
    · rename_i i' n hc
      simp only [Bool.and_eq_true, decide_eq_true_eq] at hrun
      obtain ⟨hb, hi, hm⟩ := hrun
      have hm := eqCL_eq hm
      obtain ⟨k, hk, hk0, hnb, hstr, hi4, hn2⟩ := R.cand ht (List.mem_of_getElem? hc)
      have hj := h2 (List.getElem?_eq_some_iff.1 hc).1
      unfold nOk at hj
      rw [hc] at hj
      refine .inl ⟨i', n, k, hk, hk0, hstr, (R.box i' k n hk hnb).1, hj, fun w hw => (call hw hr hd).mono ?_⟩
      rintro e w' ⟨c, ρ', rfl, ⟨vs, rfl, hvs⟩, hbw⟩
      refine ⟨?_, hbw⟩
      match hl : vs.toList, hvs with
      | [x, y, z], hvs =>
        obtain ⟨hx, ⟨ds, rfl, hds⟩, hz, _⟩ := hvs
        have hx : x = .int .i64 i := hx
        have hz : z = .bool b := hz
        rw [hm] at hds
        have e := f2_boxC (d := meetD (swapD d) (D i' n)) (fun j hj => nV_600 hi4 hn2 hj) hds
        have : vs = #[.int .i64 (i' : Nat), .agg (bx (meetD (swapD d) (D i' n))).toArray, .bool true] := by
          apply Array.ext'
          have : ds = (bx (meetD (swapD d) (D i' n))).toArray := Array.ext' (by rw [e])
          rw [hl, hx, hz, hi, hb, this]
        rw [this]
    · simp only [Bool.and_eq_true, decide_eq_true_eq, Bool.not_eq_true'] at hrun
      obtain ⟨hb, hi, hm⟩ := hrun
      have hm := eqCL_eq hm
      refine .inr (fun w hw => (call hw hr hd).mono ?_)
      rintro e w' ⟨c, ρ', rfl, ⟨vs, rfl, hvs⟩, hbw⟩
      refine ⟨?_, hbw⟩
      match hl : vs.toList, hvs with
      | [x, y, z], hvs =>
        obtain ⟨hx, ⟨ds, rfl, hds⟩, hz, _⟩ := hvs
        have hx : x = .int .i64 i := hx
        have hz : z = .bool b := hz
        rw [hm] at hds
        have e := f2_zL hds
        have : vs = #[.int .i64 0, .agg (bx fun _ => 0).toArray, .bool false] := by
          apply Array.ext'
          have : ds = (bx fun _ => 0).toArray := Array.ext' (by rw [e])
          rw [hl, hx, hz, hi, hb, this]
        rw [this]
  · cases hrun
end
end Ab
end Go.Proofs.YtbfppnppijcnlaaGreat
