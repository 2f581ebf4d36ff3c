/-
  How worlds and the interpreter's states move together: new blocks, stores, loads.
  Conditions: none.
-/
import Derived.Test.YtbfppnppijcnlaaGreatAbsS
namespace Go.Proofs.YtbfppnppijcnlaaGreat
namespace Ab
set_option linter.unusedVariables false
set_option linter.unusedSimpArgs false
section
variable (V : Nat → Value)
noncomputable def Rho.setB (ρ : Rho) (i b : Nat) : Rho := { ρ with blk := fun j => if j = i then some b else ρ.blk j }
noncomputable def Rho.setC (ρ : Rho) (i b : Nat) : Rho := { ρ with cap := fun j => if j = i then some b else ρ.cap j }
theorem alloc_get (w : World) (o : Obj) (k : Nat) (h : k < w.heap.size) : (w.alloc o).heap[k]? = w.heap[k]? := by
  show (w.heap.push o)[k]? = _
  rw [Array.getElem?_push, if_neg (by omega)]
theorem alloc_last (w : World) (o : Obj) : (w.alloc o).heap[w.heap.size]? = some o := by
  show (w.heap.push o)[w.heap.size]? = _
  rw [Array.getElem?_push, if_pos rfl]
/-- A new block. -/
theorem rep_new {ρ ρ' : Rho} {s s' : St} {w : World} (B : Blk) (cs : Array Value) (hr : Rep V ρ s w) (hn : ρ.blk s.next = none) (hl : Le ρ ρ') (hb : ∀ j, ρ'.blk j = if j = s.next then some w.heap.size else ρ.blk j) (hB : BR V ρ' w.heap.size B cs)
    (hH : s'.heap = (s.next, B) :: s.heap) (hN : s'.next = s.next + 1) : Rep V ρ' s' (w.alloc (.cells cs B.ty)) := by
  constructor
  · intro i C hC
    rw [hH, look_cons] at hC
    by_cases h1 : s.next = i
    · rw [if_pos h1, Option.some.injEq] at hC
      subst hC
      exact ⟨w.heap.size, cs, by rw [hb, if_pos h1.symm], alloc_last w _, hB⟩
    · rw [if_neg h1] at hC
      obtain ⟨b, c1, h2, h3, h4⟩ := hr.h i C hC
      exact ⟨b, c1, hl.1 _ _ h2, (alloc_get w _ b (hr.bnd _ _ h2)).trans h3, h4.mono V hl⟩
  · intro i j C D b hC hD h1 h2
    rw [hb] at h1 h2
    by_cases hi : i = s.next
    · by_cases hj : j = s.next
      · omega
      · rw [if_pos hi] at h1
        rw [if_neg hj] at h2
        have := hr.bnd _ _ h2
        injection h1 with h1
        omega
    · by_cases hj : j = s.next
      · rw [if_neg hi] at h1
        rw [if_pos hj] at h2
        have := hr.bnd _ _ h1
        injection h2 with h2
        omega
      · rw [if_neg hi] at h1
        rw [if_neg hj] at h2
        rw [hH, look_cons, if_neg (Ne.symm hi)] at hC
        rw [hH, look_cons, if_neg (Ne.symm hj)] at hD
        exact hr.inj i j C D b hC hD h1 h2
  · intro i b h1
    rw [hb] at h1
    simp only [World.size_alloc]
    by_cases hi : i = s.next
    · rw [if_pos hi] at h1
      injection h1 with h1
      omega
    · rw [if_neg hi] at h1
      have := hr.bnd _ _ h1
      omega
  · intro i C hC
    rw [hH, look_cons] at hC
    by_cases h1 : s.next = i
    · omega
    · rw [if_neg h1] at hC
      have := hr.lt i C hC
      omega
theorem nx {i n : Nat} (h : i < n ∨ n + 1 ≤ i) : ¬ i = n := by omega
theorem setB_le {ρ : Rho} {n b : Nat} (hn : ρ.blk n = none) : Le ρ (ρ.setB n b) := by
  refine ⟨fun i c hc => ?_, fun _ _ h => h⟩
  show (if i = n then some b else ρ.blk i) = some c
  by_cases h : i = n
  · subst h
    rw [hn] at hc
    cases hc
  · rw [if_neg h]
    exact hc
theorem setC_le {ρ : Rho} {n b : Nat} (hn : ρ.cap n = none) : Le ρ (ρ.setC n b) := by
  refine ⟨fun _ _ h => h, fun i c hc => ?_⟩
  show (if i = n then some b else ρ.cap i) = some c
  by_cases h : i = n
  · subst h
    rw [hn] at hc
    cases hc
  · rw [if_neg h]
    exact hc
/-- What an operation that moves from (ρ, s, w) to (s', w') gives. -/
noncomputable def Goes (ρ : Rho) (s : St) (w : World) (s' : St) (w' : World) (ρ' : Rho) : Prop := Rep V ρ' s' w' ∧ Ext ρ s w ρ' s' w' ∧ Le ρ ρ'
theorem Goes.refl {ρ : Rho} {s : St} {w : World} (h : Rep V ρ s w) : Goes V ρ s w s w ρ := ⟨h, Ext.refl _ _ _, Le.refl _⟩
theorem rep_drew {ρ : Rho} {s : St} {w : World} (h : Rep V ρ s w) : Rep V ρ s w.drew := ⟨h.h, h.inj, h.bnd, h.lt⟩
theorem go_new {ρ : Rho} {s : St} {w : World} (ty : Nat) (cells : List AC) (cs : Array Value) (hr : Rep V ρ s w) (hf : ρ.blk s.next = none) (hc : F2 (CR V ρ) cells cs.toList) :
    Goes V ρ s w (s.new ty cells none) (w.alloc (.cells cs ty)) (ρ.setB s.next w.heap.size) := by
  have hl : Le ρ (ρ.setB s.next w.heap.size) := setB_le hf
  refine ⟨rep_new V ⟨ty, cells, none⟩ cs hr hf hl (fun _ => rfl) ⟨cs.toList, [], by simp, hc.mono fun _ _ k => CR.mono V hl k, rfl⟩ rfl rfl, ?_, hl⟩
  constructor
  · intro i hi
    show (if i = s.next then _ else _) = _
    rw [if_neg (nx hi)]
  · exact fun _ _ => rfl
  · simp [St.new]
  · simp [St.new]
  · exact fun _ h => h
  · exact fun b hb _ => alloc_get w _ b hb
  · intro i b h1 h2 h3
    simp only [St.new] at h2
    have : i = s.next := by omega
    subst this
    simp [Rho.setB] at h3
    exact .inl (by omega)
  · exact fun j h => .inl h
  · intro j hj h
    simp only [St.new] at h
    rw [look_cons, if_neg (by simp; omega)] at h
    exact h
  · rfl
  · rfl
  · rfl
  · simp
/-- A new block whose capacity the run chose. -/
theorem go_newC {ρ : Rho} {s : St} {w : World} (ty : Nat) (cells : List AC) (cs : Array Value) (m sz : Nat) (more : List Value) (h0 : sz ≠ 0) (hr : Rep V ρ s w) (hf : ρ.blk s.next = none) (hg : ρ.cap s.ncap = none)
    (pre : List Value) (hcs : cs.toList = pre ++ more) (hc : F2 (CR V ρ) cells pre) (hz : cs.size = m * sz) :
    Goes V ρ s w { (s.new ty cells (some (s.ncap, sz))) with ncap := s.ncap + 1 } (w.drew.alloc (.cells cs ty)) ((ρ.setC s.ncap m).setB s.next w.heap.size) := by
  have hl0 : Le ρ (ρ.setC s.ncap m) := setC_le hg
  have hl1 : Le (ρ.setC s.ncap m) ((ρ.setC s.ncap m).setB s.next w.heap.size) := setB_le hf
  have hl := hl0.trans hl1
  refine ⟨rep_new (w := w.drew) V ⟨ty, cells, some (s.ncap, sz)⟩ cs (rep_drew V hr) hf hl (fun _ => rfl) ⟨pre, more, hcs, hc.mono fun _ _ k => CR.mono V hl k, (show (if sz = 0 then _ else _) by rw [if_neg h0]; exact ⟨m, by simp [Rho.setB, Rho.setC], hz⟩)⟩ rfl rfl, ?_, hl⟩
  constructor
  · intro i hi
    show (if i = s.next then _ else _) = _
    rw [if_neg (nx hi)]
    rfl
  · intro i hi
    show (if i = s.ncap then _ else _) = _
    rw [if_neg (nx hi)]
  · simp [St.new]
  · simp [St.new]
  · exact fun _ h => h
  · exact fun b hb _ => alloc_get w.drew _ b hb
  · intro i b h1 h2 h3
    simp only [St.new] at h2
    have : i = s.next := by omega
    subst this
    simp [Rho.setB] at h3
    exact .inl (by omega)
  · exact fun j h => .inl h
  · intro j hj h
    simp only [St.new] at h
    rw [look_cons, if_neg (by simp; omega)] at h
    exact h
  · rfl
  · rfl
  · rfl
  · simp
/-- A store into a block that is known. -/
theorem go_store {ρ : Rho} {s : St} {w : World} {i b : Nat} {B : Blk} {cs cs' : Array Value} (m : List AC) (hr : Rep V ρ s w) (hi : look s.heap i = some B) (hb : ρ.blk i = some b) (hg : w.heap[b]? = some (.cells cs B.ty (0, 0)))
    (hB : BR V ρ b { B with cells := m } cs') :
    Goes V ρ s w { s with heap := upd s.heap i { B with cells := m }, dirty := i :: s.dirty } (w.setRow b cs') ρ := by
  have hlk : ∀ j C, look (upd s.heap i { B with cells := m }) j = some C → ∃ D, look s.heap j = some D := by
    intro j C hC
    rw [look_upd] at hC
    by_cases hj : j = i
    · subst hj
      exact ⟨B, hi⟩
    · rw [if_neg hj] at hC
      exact ⟨C, hC⟩
  refine ⟨⟨?_, ?_, ?_, ?_⟩, ?_, Le.refl _⟩
  · intro j C hC
    rw [look_upd] at hC
    by_cases hj : j = i
    · subst hj
      rw [if_pos rfl, hi] at hC
      simp only [Option.map_some, Option.some.injEq] at hC
      subst hC
      exact ⟨b, cs', hb, setRow_heap w b cs cs' B.ty (0, 0) hg, hB⟩
    · rw [if_neg hj] at hC
      obtain ⟨c, c1, h2, h3, h4⟩ := hr.h j C hC
      refine ⟨c, c1, h2, (setRow_other w b c cs' (fun e => ?_)).trans h3, h4⟩
      subst e
      exact hj (hr.inj j i C B c hC hi h2 hb)
  · intro j k C D c hC hD h1 h2
    obtain ⟨C', hC'⟩ := hlk j C hC
    obtain ⟨D', hD'⟩ := hlk k D hD
    exact hr.inj j k C' D' c hC' hD' h1 h2
  · intro j c h
    rw [setRow_size]
    exact hr.bnd j c h
  · intro j C hC
    obtain ⟨C', hC'⟩ := hlk j C hC
    exact hr.lt j C' hC'
  · constructor
    · exact fun _ _ => rfl
    · exact fun _ _ => rfl
    · exact Nat.le_refl _
    · exact Nat.le_refl _
    · exact fun j h => List.mem_cons_of_mem _ h
    · intro c hc hd
      exact setRow_other w b c cs' (fun e => hd i (by simp) (hr.lt i B hi) (by rw [e]; exact hb))
    · exact fun i b h1 h2 => absurd h2 (by simp; omega)
    · intro j h
      cases h with
      | head => exact .inr (.inr (by rw [hi]; rfl))
      | tail _ h => exact .inl h
    · intro j hj h
      obtain ⟨C, hC⟩ := Option.isSome_iff_exists.1 h
      obtain ⟨D, hD⟩ := hlk j C hC
      rw [hD]
      rfl
    · rfl
    · rfl
    · rfl
    · rw [setRow_size]
      exact Nat.le_refl _
/-- A block is forgotten. -/
theorem go_forget {ρ : Rho} {s : St} {w : World} {i : Nat} {B : Blk} (hr : Rep V ρ s w) (hi : look s.heap i = some B) :
    Goes V ρ s w { s with heap := del s.heap i, dirty := i :: s.dirty } w ρ := by
  have hlk : ∀ j C, look (del s.heap i) j = some C → look s.heap j = some C := by
    intro j C hC
    rw [look_del] at hC
    by_cases hj : j = i
    · simp [hj] at hC
    · rw [if_neg hj] at hC
      exact hC
  refine ⟨⟨fun j C hC => hr.h j C (hlk j C hC), fun j k C D c hC hD => hr.inj j k C D c (hlk j C hC) (hlk k D hD), hr.bnd, fun j C hC => hr.lt j C (hlk j C hC)⟩, ?_, Le.refl _⟩
  constructor
  · exact fun _ _ => rfl
  · exact fun _ _ => rfl
  · exact Nat.le_refl _
  · exact Nat.le_refl _
  · exact fun j h => List.mem_cons_of_mem _ h
  · exact fun b hb _ => rfl
  · exact fun i b h1 h2 => absurd h2 (by simp; omega)
  · intro j h
    cases h with
    | head => exact .inr (.inr (by rw [hi]; rfl))
    | tail _ h => exact .inl h
  · intro j hj h
    obtain ⟨C, hC⟩ := Option.isSome_iff_exists.1 h
    rw [hlk j C hC]
    rfl
  · rfl
  · rfl
  · rfl
  · exact Nat.le_refl _
/-- A row goes on in its own block, under a new number. -/
theorem go_eat {ρ : Rho} {s : St} {w : World} {i b m sz : Nat} {B : Blk} {cs cs' : Array Value} (cells : List AC) (h0 : sz ≠ 0) (hr : Rep V ρ s w) (hf : ρ.blk s.next = none) (hc0 : ρ.cap s.ncap = none) (hi : look s.heap i = some B) (hb : ρ.blk i = some b)
    (hg : w.heap[b]? = some (.cells cs B.ty (0, 0))) (pre post : List Value) (h1 : cs'.toList = pre ++ post) (h2 : F2 (CR V ρ) cells pre) (h3 : cs'.size = m * sz) :
    Goes V ρ s w { heap := (s.next, ⟨B.ty, cells, some (s.ncap, sz)⟩) :: del s.heap i, next := s.next + 1, ncap := s.ncap + 1, dirty := i :: s.dirty } (w.setRow b cs') ((ρ.setC s.ncap m).setB s.next b) := by
  have hl0 : Le ρ (ρ.setC s.ncap m) := setC_le hc0
  have hl1 : Le (ρ.setC s.ncap m) ((ρ.setC s.ncap m).setB s.next b) := setB_le hf
  have hl := hl0.trans hl1
  have hbe : ∀ j, ((ρ.setC s.ncap m).setB s.next b).blk j = if j = s.next then some b else ρ.blk j := fun _ => rfl
  have hlk : ∀ j C, look (del s.heap i) j = some C → j ≠ i ∧ look s.heap j = some C := by
    intro j C hC
    rw [look_del] at hC
    by_cases hj : j = i
    · simp [hj] at hC
    · rw [if_neg hj] at hC
      exact ⟨hj, hC⟩
  refine ⟨⟨?_, ?_, ?_, ?_⟩, ?_, hl⟩
  · intro j C hC
    rw [look_cons] at hC
    by_cases hj : s.next = j
    · rw [if_pos hj, Option.some.injEq] at hC
      subst hC
      exact ⟨b, cs', by rw [hbe, if_pos hj.symm], setRow_heap w b cs cs' B.ty (0, 0) hg, pre, post, h1, h2.mono fun _ _ k => CR.mono V hl k, (show (if sz = 0 then _ else _) by rw [if_neg h0]; exact ⟨m, by simp [Rho.setB, Rho.setC], h3⟩)⟩
    · rw [if_neg hj] at hC
      obtain ⟨k1, k2⟩ := hlk j C hC
      obtain ⟨c, c1, g2, g3, g4⟩ := hr.h j C k2
      refine ⟨c, c1, hl.1 _ _ g2, (setRow_other w b c cs' (fun e => ?_)).trans g3, g4.mono V hl⟩
      subst e
      exact k1 (hr.inj j i C B c k2 hi g2 hb)
  · intro j k C D c hC hD g1 g2
    rw [look_cons] at hC hD
    rw [hbe] at g1 g2
    by_cases hj : j = s.next
    · by_cases hk : k = s.next
      · omega
      · rw [if_neg (Ne.symm hk)] at hD
        obtain ⟨k1, k2⟩ := hlk k D hD
        rw [if_pos hj] at g1
        rw [if_neg hk] at g2
        injection g1 with g1
        subst g1
        exact absurd (hr.inj k i D B b k2 hi g2 hb) k1
    · by_cases hk : k = s.next
      · rw [if_neg (Ne.symm hj)] at hC
        obtain ⟨k1, k2⟩ := hlk j C hC
        rw [if_pos hk] at g2
        rw [if_neg hj] at g1
        injection g2 with g2
        subst g2
        exact absurd (hr.inj j i C B b k2 hi g1 hb) k1
      · rw [if_neg (Ne.symm hj)] at hC
        rw [if_neg (Ne.symm hk)] at hD
        rw [if_neg hj] at g1
        rw [if_neg hk] at g2
        exact hr.inj j k C D c (hlk j C hC).2 (hlk k D hD).2 g1 g2
  · intro j c h
    rw [setRow_size]
    rw [hbe] at h
    by_cases hj : j = s.next
    · rw [if_pos hj] at h
      injection h with h
      subst h
      exact hr.bnd i b hb
    · rw [if_neg hj] at h
      exact hr.bnd j c h
  · intro j C hC
    rw [look_cons] at hC
    by_cases hj : s.next = j
    · show j < s.next + 1
      omega
    · rw [if_neg hj] at hC
      have := hr.lt j C (hlk j C hC).2
      show j < s.next + 1
      omega
  · constructor
    · intro j hj
      rw [hbe, if_neg (nx hj)]
    · intro j hj
      show (if j = s.ncap then _ else _) = _
      rw [if_neg (nx hj)]
    · exact Nat.le_succ _
    · exact Nat.le_succ _
    · exact fun j h => List.mem_cons_of_mem _ h
    · intro c hc hd
      exact setRow_other w b c cs' (fun e => hd i (by simp) (hr.lt i B hi) (by rw [e]; exact hb))
    · intro j c g1 g2 g3
      have hj : j = s.next := by
        have g2 : j < s.next + 1 := g2
        omega
      rw [hbe, if_pos hj] at g3
      injection g3 with g3
      subst g3
      exact .inr ⟨i, by simp, hr.lt i B hi, hb⟩
    · intro j h
      cases h with
      | head => exact .inr (.inr (by rw [hi]; rfl))
      | tail _ h => exact .inl h
    · intro j hj h
      rw [look_cons, if_neg (by simp; omega)] at h
      obtain ⟨C, hC⟩ := Option.isSome_iff_exists.1 h
      rw [(hlk j C hC).2]
      rfl
    · rfl
    · rfl
    · rfl
    · rw [setRow_size]
      exact Nat.le_refl _
theorem Goes.trans {ρ1 ρ2 ρ3 : Rho} {s1 s2 s3 : St} {w1 w2 w3 : World} (h : Goes V ρ1 s1 w1 s2 w2 ρ2) (k : Goes V ρ2 s2 w2 s3 w3 ρ3) : Goes V ρ1 s1 w1 s3 w3 ρ3 :=
  ⟨k.1, h.2.1.trans k.2.1, h.2.2.trans k.2.2⟩
/-- Cells that the interpreter knows lie in the world. -/
theorem load_sub {ρ : Rho} {s : St} {w : World} {i b off n : Nat} {B : Blk} {l : List AC} (hr : Rep V ρ s w) (hi : look s.heap i = some B) (hb : ρ.blk i = some b) (hl : sub B.cells off n = some l) :
    ∃ ds : List Value, ds.length = n ∧ F2 (CR V ρ) l ds ∧ ∀ j v, ds[j]? = some v → w.cell? ((⟨b, off, none⟩ : Addr).add j) = some v := by
  obtain ⟨b', cs, h1, h2, pre, post, h3, h4, h5⟩ := hr.h i B hi
  rw [hb] at h1
  injection h1 with h1
  subst h1
  obtain ⟨g1, g2, g3⟩ := h4.sub hl
  refine ⟨_, by rw [← g1.length, g2], g1, fun j v hv => ?_⟩
  have hadd : (⟨b, off, none⟩ : Addr).add j = ⟨b, off + j, none⟩ := by unfold Addr.add; split <;> simp_all
  rw [hadd]
  have hc : w.cell? ⟨b, off + j, none⟩ = cs[off + j]? := by simp [World.cell?, h2]
  rw [hc]
  rw [List.getElem?_take] at hv
  split at hv
  · rw [List.getElem?_drop] at hv
    rw [← Array.getElem?_toList, h3, List.getElem?_append]
    rw [if_pos (by
      have := (List.getElem?_eq_some_iff.1 hv).1
      exact this)]
    exact hv
  · cases hv
end
end Ab
end Go.Proofs.YtbfppnppijcnlaaGreat
