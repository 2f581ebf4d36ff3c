/-
  The contract of the program's Nodes: the number of the nodes, at most 601.
  Conditions: the term lies in memory as a tree.
-/
import Derived.Test.YtokiodjdonbipaaWalk
namespace Go.Proofs.Ytokiodjdonbipaa
open Go.RowKit Go.Shelf
set_option linter.unusedVariables false
attribute [local go_sem] Oper.semAt_some
theorem preT_len : ∀ (t : Tm) (d : Int), (preT t d).length = nodesT t := by
  intro t
  refine Tm.ind (P := fun t => ∀ d, (preT t d).length = nodesT t) ?_ t
  intro o v l ih d
  rw [preT_mk, nodesT_mk, List.length_cons]
  have : ∀ (l : List Tm) (_ : ∀ t ∈ l, ∀ d, (preT t d).length = nodesT t) (d : Int), (preL l d).length = nodesL l := by
    intro l
    induction l with
    | nil => intro _ d; rw [preL_nil, nodesL_nil]; rfl
    | cons x xs ihx =>
      intro h d
      rw [preL_cons, nodesL_cons, List.length_append, h x (by simp), ihx (fun t ht => h t (by simp [ht]))]
  rw [this l ih]
  omega
theorem blk_own {W W' : World} {g : Nat} {ty : TypeId} {cs : Array Value} {row : Option Nat} {B : Nat} (h : Blk W g ty cs) (hg : W.grownBy W' row) (hr : ∀ r, row = some r → B ≤ r ∧ ∃ o : Obj, W.heap[r]? = some o ∧ o.isCells = false) : Blk W' g ty cs :=
  h.grown hg (by
    intro e
    obtain ⟨_, o, ho, hc⟩ := hr g e.symm
    unfold Blk at h
    rw [h] at ho
    injection ho with ho
    subst ho
    cases hc)
theorem below_own {W W' w : World} {n B : Nat} {row : Option Nat} (h : Below n w W) (hn : n ≤ B) (hg : W.grownBy W' row) (hs : n ≤ W.heap.size) (hr : ∀ r, row = some r → B ≤ r ∧ ∃ o : Obj, W.heap[r]? = some o ∧ o.isCells = false) : Below n w W' :=
  h.grown hg hs (fun r e => by have := (hr r e).1; omega)
set_option maxRecDepth 100000 in
set_option maxHeartbeats 2000000 in
theorem pnodes_in (F : Fence) (hd : F.depth = none) (n : Nat) (h3 : F.fn 29) (h4 : F.fn 51) (h5 : F.fn 56) (h6 : F.fn 57) (hro : F.round = none) (hn : 3 ≤ n) (t : Tm) (A : Option Addr) (c : Nat) (w : World) (ht : Tr w t A c) :
    CallsIn F n Try.prog 29 #[.agg #[.int .i64 t.op, .int .i64 t.val, .slice A t.args.length c]] w fun e w' => e = .returned (.int .i64 ((min (nodesT t) 601 : Nat) : Int)) ∧ Below w.heap.size w w' := by
  have h1 : 1 ≤ n := by omega
  refine callsIn_of_wp_marks Try.func29 rfl h3 ?_ hro
  simp only [Try.ntmps29, List.size_toArray, List.length_cons, List.length_nil, Nat.reduceAdd, Nat.reduceSub, Array.replicate_succ, Array.replicate_zero, List.push_toArray, List.append_toArray, List.nil_append, List.cons_append]
  gi_wp2_with (gi_at_call 51; refine (nodes_in F (n - 1) h4 hro t A c _).mono ?_; rintro e w' ⟨rfl, rfl⟩)
  have hb0 : Blk (((w.alloc (Obj.cells #[.int .i64 t.op, .int .i64 t.val, .slice A t.args.length c] 24)).alloc (Obj.cells #[.int .i64 0] 3)).alloc (Obj.cells #[.int .i64 t.op, .int .i64 t.val, .slice A t.args.length c] 24)) (w.heap.size + 1) 3 #[.int .i64 0] := by
    have := heap_alloc_new (w.alloc (Obj.cells #[.int .i64 t.op, .int .i64 t.val, .slice A t.args.length c] 24)) (Obj.cells #[.int .i64 0] 3)
    simp only [World.size_alloc] at this
    exact Blk.alloc this _
  have hbt : Blk (((w.alloc (Obj.cells #[.int .i64 t.op, .int .i64 t.val, .slice A t.args.length c] 24)).alloc (Obj.cells #[.int .i64 0] 3)).alloc (Obj.cells #[.int .i64 t.op, .int .i64 t.val, .slice A t.args.length c] 24)) (w.heap.size + 1 + 1) 24 #[.int .i64 t.op, .int .i64 t.val, .slice A t.args.length c] := by
    have := heap_alloc_new ((w.alloc (Obj.cells #[.int .i64 t.op, .int .i64 t.val, .slice A t.args.length c] 24)).alloc (Obj.cells #[.int .i64 0] 3)) (Obj.cells #[.int .i64 t.op, .int .i64 t.val, .slice A t.args.length c] 24)
    simp only [World.size_alloc] at this
    exact this
  have hbb : Below w.heap.size w (((w.alloc (Obj.cells #[.int .i64 t.op, .int .i64 t.val, .slice A t.args.length c] 24)).alloc (Obj.cells #[.int .i64 0] 3)).alloc (Obj.cells #[.int .i64 t.op, .int .i64 t.val, .slice A t.args.length c] 24)) := (((Below.refl _ _).alloc (Nat.le_refl _) _).alloc (by simp) _).alloc (by simp; omega) _
  have hsz : ((((w.alloc (Obj.cells #[.int .i64 t.op, .int .i64 t.val, .slice A t.args.length c] 24)).alloc (Obj.cells #[.int .i64 0] 3)).alloc (Obj.cells #[.int .i64 t.op, .int .i64 t.val, .slice A t.args.length c] 24))).heap.size = w.heap.size + 1 + 1 + 1 := by simp
  generalize (((w.alloc (Obj.cells #[.int .i64 t.op, .int .i64 t.val, .slice A t.args.length c] 24)).alloc (Obj.cells #[.int .i64 0] 3)).alloc (Obj.cells #[.int .i64 t.op, .int .i64 t.val, .slice A t.args.length c] 24)) = W3 at *
  refine wpIn_rangeFunc_ownF hro h1 (gf := 56) (lb := #[.pointer (some ⟨w.heap.size + 1 + 1, 0, none⟩)]) rfl h5 (enters_of Try.func56 (by kernel_rfl) rfl)
    (nodes_stops F hd (n - 1) h5 h6 hro (w.heap.size + 1 + 1) w (fun g => g = w.heap.size + 1) t A c W3 (fun g e => by omega) hbt ht (Bk.of_below hbb)) (fun h k => Kc.trans h k) (fun W l o o' _ h hc _ => Kc.put W l o o' h hc) (Below.refl _ _) (fun _ => rfl)
    (fun pre W => pre.length ≤ 600 ∧ Blk W (w.heap.size + 1) 3 #[.int .i64 (pre.length : Nat)] ∧ Below w.heap.size w W)
    (fun cd pre W => cd = .exit 0 ∧ pre.length = 601 ∧ Blk W (w.heap.size + 1) 3 #[.int .i64 601] ∧ Below w.heap.size w W)
    (fun s A B row hs hg hr => ⟨hs.1, blk_own hs.2.1 hg hr, below_own hs.2.2 (by omega) hg hs.2.2.size hr⟩)
    (fun cd s A B row hs hg hr => ⟨hs.1, hs.2.1, blk_own hs.2.2.1 hg hr, below_own hs.2.2.2 (by omega) hg hs.2.2.2.size hr⟩)
    ⟨Nat.zero_le _, hb0, hbb⟩
    (fun x => { tmps := #[.agg #[.int .i64 t.op, .int .i64 t.val, .slice A t.args.length c], .pointer (some ⟨w.heap.size, 0, none⟩), .int .i64 0, .pointer (some ⟨w.heap.size + 1, 0, none⟩), .agg #[.int .i64 t.op, .int .i64 t.val, .slice A t.args.length c], .func (.func 56) #[] #[.pointer (some ⟨w.heap.size + 1 + 1, 0, none⟩)], .agg #[.int .i64 x.t.op, .int .i64 x.t.val, .slice x.A x.t.args.length x.c], .int .i64 x.d, undef, undef, undef, undef, undef], defers := [] }) ?assign ?body ?done ?stop
  case assign =>
    intro l x W K hK
    gi_wp2
    simpa [Nd.enc] using hK
  case body =>
    rintro l pre x W ⟨hp, hb, hB⟩ _
    have c0 : W.cell? ⟨w.heap.size + 1, 0, none⟩ = some (.int .i64 (pre.length : Nat)) := hb.cell 0
    have fz := hb.free 0
    have hput := hb.put 0 (.int .i64 ((pre.length : Int) + 1))
    simp only [List.setIfInBounds_toArray, List.set_cons_zero] at hput
    have hbel : Below w.heap.size w (W.setCell ⟨w.heap.size + 1, 0, none⟩ (.int .i64 ((pre.length : Int) + 1))) := hB.setCell (p := ⟨w.heap.size + 1, 0, none⟩) (by simp) _
    have HP := Lib.hid hput
    have HB := Lib.hid hbel
    clear hput hbel hb hB
    by_cases h600 : pre.length = 600
    · have q : decide (600 < (pre.length : Int) + 1) = true := by simp; omega
      have e1 : (pre.length : Int) + 1 = 601 := by omega
      rw [e1] at HP HB
      gi_wp2
      exact ⟨KeepsOthers.setCell _ _ _, rfl, by simp [h600], HP.out, HB.out⟩
    · have q : decide (600 < (pre.length : Int) + 1) = false := by simp; omega
      gi_wp2
      refine ⟨KeepsOthers.setCell _ _ _, ⟨by simp, fun g cs ty fr hg ho => ?_⟩, by simp; omega, by simpa using HP.out, HB.out⟩
      exact (Below.heap_setCell W ⟨w.heap.size + 1, 0, none⟩ _ g (by simpa using ho)).trans hg
  case done =>
    rintro D ys W hD hys ⟨hp, hb, hB⟩ hK
    have c0 : W.cell? ⟨w.heap.size + 1, 0, none⟩ = some (.int .i64 (ys.length : Nat)) := hb.cell 0
    have hl : ys.length = nodesT t := by rw [← preT_len t 1, ← hys, List.length_map]
    have hmin : min (nodesT t) 601 = nodesT t := by omega
    gi_wp2
    refine ⟨by simp, .inl ⟨_, _, rfl, run_takeDeferred hK, ?_⟩⟩
    exact ⟨_, results_tmp rfl _ _ _, by rw [hmin]; rfl, hB.trans (belowK_b (w := w) (Nat.le_refl _) W D _ _ (by omega) hK rfl rfl)⟩
  case stop =>
    rintro D cd pre W hD hpre ⟨rfl, hp, hb, hB⟩ hK
    have c0 : W.cell? ⟨w.heap.size + 1, 0, none⟩ = some (.int .i64 601) := hb.cell 0
    have hl : 601 ≤ nodesT t := by rw [← preT_len t 1, ← hp]; have := hpre.length_le; simpa using this
    have hmin : min (nodesT t) 601 = 601 := by omega
    gi_wp2
    refine ⟨by simp, .inl ⟨_, _, rfl, run_takeDeferred hK, ?_⟩⟩
    exact ⟨_, results_tmp rfl _ _ _, by rw [hmin]; rfl, hB.trans (belowK_b (w := w) (Nat.le_refl _) W D _ _ (by omega) hK rfl rfl)⟩
theorem pnodes_any (t : Tm) (w : World) (A : Option Addr) (c : Nat) (ht : Tr w t A c) :
    Calls Try.prog 29 #[.agg #[.int .i64 t.op, .int .i64 t.val, .slice A t.args.length c]] w fun e w' => e = .returned (.int .i64 ((min (nodesT t) 601 : Nat) : Int)) ∧ Below w.heap.size w w' :=
  callsIn_wide.1 (pnodes_in Fence.wide rfl 3 trivial trivial trivial trivial rfl (by omega) t A c w ht)
end Go.Proofs.Ytokiodjdonbipaa
