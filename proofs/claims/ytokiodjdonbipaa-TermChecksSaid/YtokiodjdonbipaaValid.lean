/-
  The contracts of Valid, the reference's and the program's.
  Conditions: the term lies in memory as a tree.
-/
import Derived.Test.YtokiodjdonbipaaRVal
import Derived.Test.YtokiodjdonbipaaNodes
namespace Go.Proofs.Ytokiodjdonbipaa
open Go.RowKit Go.Sort Go.Shelf
set_option linter.unusedVariables false
theorem rvalid_any (t : Tm) (w : World) (A : Option Addr) (c : Nat) (ht : Tr w t A c) :
    Calls Try.prog 28 #[.agg #[.int .i64 t.op, .int .i64 t.val, .slice A t.args.length c]] w fun e w' => e = .returned (.bool (validT t)) ∧ Below w.heap.size w w' := by
  have b1 : Blk (w.alloc (Obj.cells #[.int .i64 t.op, .int .i64 t.val, .slice A t.args.length c] 24)) w.heap.size 24 #[.int .i64 t.op, .int .i64 t.val, .slice A t.args.length c] := heap_alloc_new w _
  have bb : Below w.heap.size w (w.alloc (Obj.cells #[.int .i64 t.op, .int .i64 t.val, .slice A t.args.length c] 24)) := (Below.refl _ _).alloc (Nat.le_refl _) _
  generalize hR : validT t = R
  have HR := Lib.hid hR
  have HT := Lib.hid ht
  have B0 := Lib.hid (And.intro b1 bb)
  clear hR ht b1 bb
  go_enter Try.func28, Try.ntmps28
  go_wp2_with fail
  generalize w.alloc (Obj.cells #[.int .i64 t.op, .int .i64 t.val, .slice A t.args.length c] 24) = W at *
  refine (rnodes_any t W A c (HT.out.bel B0.out.2)).mono ?_
  rintro e w2 ⟨rfl, hb2⟩
  have b1 := B0.out.1.below hb2 B0.out.1.lt
  have bb := below_then B0.out.2 hb2 B0.out.2.size
  have B2 := Lib.hid (And.intro b1 bb)
  have x0 : w2.cell? ⟨w.heap.size, 0, none⟩ = some (.int .i64 t.op) := b1.cell 0
  have x1 : w2.cell? ⟨w.heap.size, 1, none⟩ = some (.int .i64 t.val) := b1.cell 1
  have x2 : w2.cell? ⟨w.heap.size, 2, none⟩ = some (.slice A t.args.length c) := b1.cell 2
  clear b1 bb hb2 B0
  by_cases h1 : nodesT t ≤ 600
  · have q1 : decide (((min (nodesT t) 601 : Nat) : Int) ≤ 600) = true := decide_eq_true (by omega)
    obtain ⟨z, hz⟩ : ∃ z, z = min (nodesT t) 601 := ⟨_, rfl⟩
    rw [← hz] at q1 ⊢
    clear hz
    go_wp2_with fail
    refine (rdepth_any t w2 A c 60 (HT.out.bel B2.out.2) (by omega) (by omega)).mono ?_
    rintro e w3 ⟨rfl, hb3⟩
    have b1 := B2.out.1.below hb3 B2.out.1.lt
    have bb := below_then B2.out.2 hb3 B2.out.2.size
    have B3 := Lib.hid (And.intro b1 bb)
    have y0 : w3.cell? ⟨w.heap.size, 0, none⟩ = some (.int .i64 t.op) := b1.cell 0
    have y1 : w3.cell? ⟨w.heap.size, 1, none⟩ = some (.int .i64 t.val) := b1.cell 1
    have y2 : w3.cell? ⟨w.heap.size, 2, none⟩ = some (.slice A t.args.length c) := b1.cell 2
    clear b1 bb hb3 x0 x1 x2
    by_cases h2 : depthT t ≤ 60
    · have q2 : decide ((depthT t : Int) ≤ 60) = true := decide_eq_true (by omega)
      rw [q2]
      have e1 : formsT t = R := by rw [← HR.out]; unfold validT; simp [h1, h2]
      have HE := Lib.hid e1
      clear q2 e1 h1 h2
      go_wp2_with fail
      refine (forms_any t w3 A c (HT.out.bel B3.out.2)).mono ?_
      rintro e w4 ⟨rfl, hb4⟩
      have bb := Lib.hid (below_then B3.out.2 hb4 B3.out.2.size)
      clear hb4 y0 y1 y2
      go_wp2_with fail
      go_ret
      exact ⟨ret_bool HE.out, bb.out⟩
    · have q2 : decide ((depthT t : Int) ≤ 60) = false := decide_eq_false (by omega)
      rw [q2]
      have e1 : R = false := by rw [← HR.out]; unfold validT; simp [h2]
      subst e1
      clear q2 h1 h2
      go_wp2_with fail
      go_ret
      exact ⟨rfl, B3.out.2⟩
  · have q1 : decide (((min (nodesT t) 601 : Nat) : Int) ≤ 600) = false := decide_eq_false (by omega)
    obtain ⟨z, hz⟩ : ∃ z, z = min (nodesT t) 601 := ⟨_, rfl⟩
    rw [← hz] at q1 ⊢
    have e1 : R = false := by rw [← HR.out]; unfold validT; simp [h1]
    subst e1
    clear hz h1
    go_wp2_with fail
    go_ret
    exact ⟨rfl, B2.out.2⟩
/-! ### The program's -/
/-- What a round asks of a node. -/
def okN (x : Tm × Int) : Bool := decide (x.2 ≤ 60) && formN x.1.op x.1.val x.1.args
theorem pre_ok : ∀ (t : Tm) (d : Int), 0 ≤ d → d + nodesT t ≤ 1000000 → ((∀ x ∈ preT t d, okN x = true) ↔ (d - 1 + depthT t ≤ 60 ∧ formsT t = true)) := by
  intro t
  refine Tm.ind (P := fun t => ∀ (d : Int), 0 ≤ d → d + nodesT t ≤ 1000000 → ((∀ x ∈ preT t d, okN x = true) ↔ (d - 1 + depthT t ≤ 60 ∧ formsT t = true))) ?_ t
  intro o v l ih d hd0 hd
  rw [preT_mk, depthT_mk, formsT_mk]
  rw [nodesT_mk] at hd
  have hw : wrap64 (d + 1) = d + 1 := by unfold wrap64; omega
  rw [hw]
  have hl : ∀ (l : List Tm) (_ : ∀ t ∈ l, ∀ (d : Int), 0 ≤ d → d + nodesT t ≤ 1000000 → ((∀ x ∈ preT t d, okN x = true) ↔ (d - 1 + depthT t ≤ 60 ∧ formsT t = true))) (d : Int), 0 ≤ d → d ≤ 61 → d + nodesL l ≤ 1000000 → ((∀ x ∈ preL l d, okN x = true) ↔ (d - 1 + depthL l ≤ 60 ∧ formsL l = true)) := by
    intro l
    induction l with
    | nil => intro _ d _ h61 _; rw [preL_nil, depthL_nil, formsL_nil]; simp; omega
    | cons y ys ihy =>
      intro h d h0 h61 hs
      rw [nodesL_cons] at hs
      rw [preL_cons, depthL_cons, formsL_cons]
      have h1 := h y (by simp) d h0 (by omega)
      have h2 := ihy (fun t ht => h t (by simp [ht])) d h0 h61 (by omega)
      simp only [List.mem_append, or_imp, forall_and, Bool.and_eq_true]
      rw [h1, h2]
      constructor
      · rintro ⟨⟨a, b⟩, c, e⟩; exact ⟨by omega, b, e⟩
      · rintro ⟨a, b, c⟩; exact ⟨⟨by omega, b⟩, by omega, c⟩
  simp only [List.mem_cons, forall_eq_or_imp, Bool.and_eq_true]
  have hok : okN (.mk o v l, d) = true ↔ (d ≤ 60 ∧ formN o v l = true) := by unfold okN; simp
  rw [hok]
  by_cases h60 : d ≤ 60
  · rw [hl l ih (d + 1) (by omega) (by omega) (by omega)]
    constructor
    · rintro ⟨⟨h1, h2⟩, h3, h4⟩; exact ⟨by omega, h4, h2⟩
    · rintro ⟨h1, h2, h3⟩; exact ⟨⟨by omega, h3⟩, by omega, h2⟩
  · constructor
    · rintro ⟨⟨h1, _⟩, _⟩; omega
    · rintro ⟨h1, _⟩; omega
theorem valid_pre {t : Tm} (hn : nodesT t ≤ 600) : validT t = true ↔ ∀ x ∈ preT t 1, okN x = true := by
  rw [pre_ok t 1 (by omega) (by omega)]
  unfold validT
  simp [hn]
  intro _
  omega
theorem kc_below {own : Nat → Prop} {W W' : World} (h : Below W.heap.size W W') : Kc own W W' := ⟨h.size, fun g cs ty fr hg _ => (h.block g (Array.getElem?_eq_some_iff.1 hg).1).trans hg⟩
theorem others_below {W W' : World} (h : Below W.heap.size W W') : KeepsOthers W W' := ⟨h.size, fun k o hk _ => (h.block k (Array.getElem?_eq_some_iff.1 hk).1).trans hk⟩
/-- The loop's frame: the round's variable lies in block Bx. -/
def AxV (w : World) (w3s : Nat) (t : Tm) (A : Option Addr) (c : Nat) (z : Nat) (x : Nd w) (a' : Act) (W : World) : Prop :=
  ∃ Bx, w.heap.size + 1 < Bx ∧ Blk W Bx 24 #[.int .i64 x.t.op, .int .i64 x.t.val, .slice x.A x.t.args.length x.c] ∧ a' = { tmps := #[.agg #[.int .i64 t.op, .int .i64 t.val, .slice A t.args.length c], .pointer (some ⟨w.heap.size, 0, none⟩), .pointer (some ⟨w.heap.size + 1, 0, none⟩), .pointer (some ⟨Bx, 0, none⟩), .int .i64 x.d, .agg #[.int .i64 t.op, .int .i64 t.val, .slice A t.args.length c], .int .i64 (z : Nat), .bool false, .agg #[.int .i64 t.op, .int .i64 t.val, .slice A t.args.length c], .func (.func 56) #[] #[.pointer (some ⟨w3s, 0, none⟩)], .agg #[.int .i64 x.t.op, .int .i64 x.t.val, .slice x.A x.t.args.length x.c], .int .i64 x.d, undef, undef, undef, undef, undef, undef, undef], defers := [] }
theorem ret_valid {w W : World} {R : Bool} {n D : Nat} {tm : Array Value} (hb : Blk W (w.heap.size + 1) 4 #[.bool R]) (hB : Below w.heap.size w W) (hD : w.heap.size + 1 < D) (hK : W.heap[D]? = some (.deferred (some [])))
    (ht : tm[2]?.getD undef = .pointer (some ⟨w.heap.size + 1, 0, none⟩)) :
    bodyPostM Fence.wide n Try.prog Try.f27 (fun e w' => e = .returned (.bool R) ∧ Below w.heap.size w w') Exit.ret { tmps := tm, defers := [{ target := .collected D, args := #[] }] } W := by
  refine ⟨by simp, .inl ⟨_, _, rfl, run_takeDeferred hK, ?_⟩⟩
  have hlt : D < W.heap.size := (Array.getElem?_eq_some_iff.1 hK).1
  have hb2 : Blk (W.putObj D (.deferred none)) (w.heap.size + 1) 4 #[.bool R] := (World.putObj_heap_other (by omega)).trans hb
  have c0 : (W.putObj D (.deferred none)).cell? ⟨w.heap.size + 1, 0, none⟩ = some (.bool R) := hb2.cell 0
  refine ⟨.bool R, ?_, rfl, hB.trans (belowK_b (w := w) (Nat.le_refl _) W D _ _ (by omega) hK rfl rfl)⟩
  simp [results, Try.results27, go_sem, c0, ht]
attribute [local go_sem] Oper.semAt_some
set_option maxRecDepth 100000 in
set_option maxHeartbeats 2000000 in
theorem pvalid_wide (t : Tm) (A : Option Addr) (c : Nat) (w : World) (ht : Tr w t A c) :
    CallsIn Fence.wide 9 Try.prog 27 #[.agg #[.int .i64 t.op, .int .i64 t.val, .slice A t.args.length c]] w fun e w' => e = .returned (.bool (validT t)) ∧ Below w.heap.size w w' := by
  have b1 : Blk ((w.alloc (Obj.cells #[.int .i64 t.op, .int .i64 t.val, .slice A t.args.length c] 24)).alloc (Obj.cells #[.bool false] 4)) w.heap.size 24 #[.int .i64 t.op, .int .i64 t.val, .slice A t.args.length c] := Blk.alloc (heap_alloc_new w _) _
  have b2 : Blk ((w.alloc (Obj.cells #[.int .i64 t.op, .int .i64 t.val, .slice A t.args.length c] 24)).alloc (Obj.cells #[.bool false] 4)) (w.heap.size + 1) 4 #[.bool false] := by
    have := heap_alloc_new (w.alloc (Obj.cells #[.int .i64 t.op, .int .i64 t.val, .slice A t.args.length c] 24)) (Obj.cells #[.bool false] 4)
    simp only [World.size_alloc] at this
    exact this
  have bb : Below w.heap.size w ((w.alloc (Obj.cells #[.int .i64 t.op, .int .i64 t.val, .slice A t.args.length c] 24)).alloc (Obj.cells #[.bool false] 4)) := ((Below.refl _ _).alloc (Nat.le_refl _) _).alloc (by simp) _
  generalize hR : validT t = R
  have HR := Lib.hid hR
  have HT := Lib.hid ht
  have B0 := Lib.hid (And.intro b1 (And.intro b2 bb))
  clear hR ht b1 b2 bb
  refine callsIn_of_wp_marks Try.func27 rfl trivial ?_ rfl
  simp only [Try.ntmps27, List.size_toArray, List.length_cons, List.length_nil, Nat.reduceAdd, Nat.reduceSub, Array.replicate_succ, Array.replicate_zero, List.push_toArray, List.append_toArray, List.nil_append, List.cons_append]
  gi_wp2
  generalize ((w.alloc (Obj.cells #[.int .i64 t.op, .int .i64 t.val, .slice A t.args.length c] 24)).alloc (Obj.cells #[.bool false] 4)) = W2 at *
  refine ⟨trivial, ?_⟩
  refine (pnodes_in Fence.wide rfl (9 - 1) trivial trivial trivial trivial rfl (by omega) t A c W2 (HT.out.bel B0.out.2.2)).mono ?_
  rintro e w3 ⟨rfl, hb3⟩
  have b1 := B0.out.1.below hb3 B0.out.1.lt
  have b2 := B0.out.2.1.below hb3 B0.out.2.1.lt
  have bb := below_then B0.out.2.2 hb3 B0.out.2.2.size
  have B3 := Lib.hid (And.intro b1 (And.intro b2 bb))
  have x0 : w3.cell? ⟨w.heap.size, 0, none⟩ = some (.int .i64 t.op) := b1.cell 0
  have x1 : w3.cell? ⟨w.heap.size, 1, none⟩ = some (.int .i64 t.val) := b1.cell 1
  have x2 : w3.cell? ⟨w.heap.size, 2, none⟩ = some (.slice A t.args.length c) := b1.cell 2
  have y0 : w3.cell? ⟨w.heap.size + 1, 0, none⟩ = some (.bool false) := b2.cell 0
  have yf := b2.free 0
  clear b1 b2 bb hb3 B0
  by_cases h1 : nodesT t ≤ 600
  · obtain ⟨z, hz⟩ : ∃ z, z = min (nodesT t) 601 := ⟨_, rfl⟩
    have q1 : decide (600 < (z : Int)) = false := decide_eq_false (by omega)
    rw [← hz]
    clear hz
    gi_wp2
    refine ⟨trivial, ?_⟩
    refine (nodes_in Fence.wide (9 - 1) trivial rfl t A c w3).mono ?_
    rintro e w' ⟨rfl, rfl⟩
    gi_wp2
    have b1 := B3.out.1
    have hbt : Blk (w3.alloc (Obj.cells #[.int .i64 t.op, .int .i64 t.val, .slice A t.args.length c] 24)) w3.heap.size 24 #[.int .i64 t.op, .int .i64 t.val, .slice A t.args.length c] := heap_alloc_new w3 _
    have hbr := B3.out.2.1.alloc (Obj.cells #[.int .i64 t.op, .int .i64 t.val, .slice A t.args.length c] 24)
    have hbb := B3.out.2.2.alloc B3.out.2.2.size (Obj.cells #[.int .i64 t.op, .int .i64 t.val, .slice A t.args.length c] 24)
    have hsz : ((w3.alloc (Obj.cells #[.int .i64 t.op, .int .i64 t.val, .slice A t.args.length c] 24))).heap.size = w3.heap.size + 1 := by simp
    have hs3 := B3.out.2.1.lt
    clear b1 B3 x0 x1 x2 y0 yf
    generalize hw4 : (w3.alloc (Obj.cells #[.int .i64 t.op, .int .i64 t.val, .slice A t.args.length c] 24)) = W4 at *
    clear hw4
    generalize w3.heap.size = s3 at *
    refine wpIn_rangeFunc_ownH rfl (by omega) (gf := 56) (lb := #[.pointer (some ⟨s3, 0, none⟩)]) rfl trivial (enters_of Try.func56 (by kernel_rfl) rfl)
      (nodes_stops Fence.wide rfl (9 - 1) trivial trivial rfl s3 w (fun g => g = w.heap.size + 1) t A c W4 (fun g e => by omega) hbt HT.out (Bk.of_below hbb)) (fun h k => Kc.trans h k) (fun W l o o' _ h hc _ => Kc.put W l o o' h hc) (Below.refl _ _) (fun _ => rfl)
      (fun pre W => (∀ x ∈ pre, okN x.td = true) ∧ Blk W (w.heap.size + 1) 4 #[.bool false] ∧ Below w.heap.size w W)
      (fun cd pre W => cd = .ret ∧ (∃ x ∈ pre, okN x.td = false) ∧ Blk W (w.heap.size + 1) 4 #[.bool false] ∧ Below w.heap.size w W)
      (fun s A B row hs hg hr => ⟨hs.1, blk_own hs.2.1 hg hr, below_own hs.2.2 (by omega) hg hs.2.2.size hr⟩)
      (fun cd s A B row hs hg hr => ⟨hs.1, hs.2.1, blk_own hs.2.2.1 hg hr, below_own hs.2.2.2 (by omega) hg hs.2.2.2.size hr⟩)
      ⟨(fun x hx => by cases hx), hbr, hbb⟩
      (AxV w s3 t A c z) (fun x a' s A B row hs hg hr => by obtain ⟨Bx, h1, h2, h3⟩ := hs; exact ⟨Bx, h1, blk_own h2 hg hr, h3⟩) ?assign ?body ?done ?stop
    case assign =>
      rintro l pre x W K ⟨hi, hb, hB⟩ hK
      have hk := hK { tmps := #[.agg #[.int .i64 t.op, .int .i64 t.val, .slice A t.args.length c], .pointer (some ⟨w.heap.size, 0, none⟩), .pointer (some ⟨w.heap.size + 1, 0, none⟩), .pointer (some ⟨W.heap.size, 0, none⟩), .int .i64 x.d, .agg #[.int .i64 t.op, .int .i64 t.val, .slice A t.args.length c], .int .i64 (z : Nat), .bool false, .agg #[.int .i64 t.op, .int .i64 t.val, .slice A t.args.length c], .func (.func 56) #[] #[.pointer (some ⟨s3, 0, none⟩)], .agg #[.int .i64 x.t.op, .int .i64 x.t.val, .slice x.A x.t.args.length x.c], .int .i64 x.d, undef, undef, undef, undef, undef, undef, undef], defers := [] } (W.alloc (.cells #[.int .i64 x.t.op, .int .i64 x.t.val, .slice x.A x.t.args.length x.c] 24))
        ((KeepsOthers.alloc _ _).from _) ((Kc.refl _ W).alloc _) ⟨hi, hb.alloc _, hB.alloc hB.size _⟩ ⟨W.heap.size, hb.lt, heap_alloc_new W _, rfl⟩
      have HK := Lib.hid hk
      clear hk hK
      simp [Nd.enc]
      gi_wp2
      exact HK.out
    case body =>
      rintro l pre x a' W hl ⟨r, hr⟩ ⟨hi, hb, hB⟩ ⟨Bx, hBx, hbx, rfl⟩ hlt
      have c0 : W.cell? ⟨Bx, 0, none⟩ = some (.int .i64 x.t.op) := hbx.cell 0
      have c1 : W.cell? ⟨Bx, 1, none⟩ = some (.int .i64 x.t.val) := hbx.cell 1
      have c2 : W.cell? ⟨Bx, 2, none⟩ = some (.slice x.A x.t.args.length x.c) := hbx.cell 2
      have r0 : W.cell? ⟨w.heap.size + 1, 0, none⟩ = some (.bool false) := hb.cell 0
      have rf := hb.free 0
      by_cases h60 : 60 < x.d
      · have q1 : decide (60 < x.d) = true := decide_eq_true h60
        have hno : okN x.td = false := by unfold okN Nd.td; simp; omega
        have hput := hb.put 0 (.bool false)
        simp only [List.setIfInBounds_toArray, List.set_cons_zero] at hput
        have hbel : Below w.heap.size w (W.setCell ⟨w.heap.size + 1, 0, none⟩ (.bool false)) := hB.setCell (p := ⟨w.heap.size + 1, 0, none⟩) (by simp) _
        have HH := Lib.hid (And.intro hno (And.intro hput hbel))
        clear hno hput hbel hi hb hB hbx h60
        gi_wp2
        refine ⟨trivial, ?_⟩
        gi_wp2
        exact ⟨(KeepsOthers.setCell _ _ _).from _, rfl, ⟨x, by simp, HH.out.1⟩, HH.out.2.1, HH.out.2.2⟩
      · have q1 : decide (60 < x.d) = false := decide_eq_false h60
        have hsd := sound_any x.t W x.A x.c (x.tr.bel hB)
        cases hfo : formN x.t.op x.t.val x.t.args
        · rw [hfo] at hsd
          have hno : okN x.td = false := by unfold okN Nd.td; simp [hfo]
          have HSD := Lib.hid hsd
          have HNO := Lib.hid hno
          have HI := Lib.hid (And.intro hi (And.intro hb hB))
          clear hsd hno hfo hi hB hb hbx h60
          gi_wp2
          refine ⟨trivial, ?_⟩
          refine (CallsIn.inRound l (callsIn_wide.2 HSD.out)).mono ?_
          rintro e W2 ⟨rfl, hb2⟩
          have hb3 := HI.out.2.1.below hb2 HI.out.2.1.lt
          have r0 : W2.cell? ⟨w.heap.size + 1, 0, none⟩ = some (.bool false) := hb3.cell 0
          have rf := hb3.free 0
          have hput := hb3.put 0 (.bool false)
          simp only [List.setIfInBounds_toArray, List.set_cons_zero] at hput
          have hbel : Below w.heap.size w (W2.setCell ⟨w.heap.size + 1, 0, none⟩ (.bool false)) := (below_then HI.out.2.2 hb2 HI.out.2.2.size).setCell (p := ⟨w.heap.size + 1, 0, none⟩) (by simp) _
          have HH := Lib.hid (And.intro hput (And.intro hbel (others_below hb2)))
          clear hput hbel hb3 hb2
          gi_wp2
          exact ⟨(HH.out.2.2.trans (KeepsOthers.setCell _ _ _)).from _, rfl, ⟨x, by simp, HNO.out⟩, HH.out.1, HH.out.2.1⟩
        · rw [hfo] at hsd
          have hyes : okN x.td = true := by unfold okN Nd.td; simp [hfo]; omega
          have HSD := Lib.hid hsd
          have HY := Lib.hid hyes
          have HI := Lib.hid (And.intro hi (And.intro hb hB))
          clear hsd hyes hfo hi hB hb hbx h60
          gi_wp2
          refine ⟨trivial, ?_⟩
          refine (CallsIn.inRound l (callsIn_wide.2 HSD.out)).mono ?_
          rintro e W2 ⟨rfl, hb2⟩
          have HB2 := Lib.hid hb2
          clear hb2
          gi_wp2
          refine ⟨(others_below HB2.out).from _, kc_below HB2.out, fun y hy => ?_, HI.out.2.1.below HB2.out HI.out.2.1.lt, below_then HI.out.2.2 HB2.out HI.out.2.2.size⟩
          rcases List.mem_append.1 hy with hy | hy
          · exact HI.out.1 y hy
          · simp at hy; subst hy; exact HY.out
    case done =>
      rintro D ys W hD hys ⟨hi, hb, hB⟩ hK
      have e1 : R = true := by
        rw [← HR.out, valid_pre h1, ← hys]
        intro x hx
        obtain ⟨y, hy, rfl⟩ := List.mem_map.1 hx
        exact hi y hy
      have r0 : W.cell? ⟨w.heap.size + 1, 0, none⟩ = some (.bool false) := hb.cell 0
      have rf := hb.free 0
      have hput := hb.put 0 (.bool true)
      simp only [List.setIfInBounds_toArray, List.set_cons_zero] at hput
      have hbel : Below w.heap.size w (W.setCell ⟨w.heap.size + 1, 0, none⟩ (.bool true)) := hB.setCell (p := ⟨w.heap.size + 1, 0, none⟩) (by simp) _
      have hK2 := (KeepsOthers.setCell W ⟨w.heap.size + 1, 0, none⟩ (.bool true)).same D _ hK rfl
      have HH := Lib.hid (And.intro hput (And.intro hbel hK2))
      subst e1
      clear hput hbel hK2 hi hb hB hK hys HR
      gi_wp2
      exact ret_valid HH.out.1 HH.out.2.1 (by omega) HH.out.2.2 rfl
    case stop =>
      rintro D cd pre W hD hpre ⟨rfl, ⟨x, hx, hno⟩, hb, hB⟩ hK
      have e1 : R = false := by
        cases hv : R
        · rfl
        · rw [hv] at HR
          have h := (valid_pre h1).1 HR.out x.td (hpre.subset (List.mem_map.2 ⟨x, hx, rfl⟩))
          rw [hno] at h
          cases h
      subst e1
      have HH := Lib.hid (And.intro hb (And.intro hB hK))
      clear hb hB hK hno hpre HR
      gi_wp2
      exact ret_valid HH.out.1 HH.out.2.1 (by omega) HH.out.2.2 rfl
  · obtain ⟨z, hz⟩ : ∃ z, z = min (nodesT t) 601 := ⟨_, rfl⟩
    have q1 : decide (600 < (z : Int)) = true := decide_eq_true (by omega)
    have e1 : R = false := by rw [← HR.out]; unfold validT; simp [h1]
    subst e1
    rw [← hz]
    clear hz h1
    have hput := B3.out.2.1.put 0 (.bool false)
    simp only [List.setIfInBounds_toArray, List.set_cons_zero] at hput
    have hbel : Below w.heap.size w (w3.setCell ⟨w.heap.size + 1, 0, none⟩ (.bool false)) := B3.out.2.2.setCell (p := ⟨w.heap.size + 1, 0, none⟩) (by simp) _
    have HH := Lib.hid (And.intro hput hbel)
    clear hput hbel B3
    gi_wp2
    generalize w3.setCell ⟨w.heap.size + 1, 0, none⟩ (.bool false) = w4 at *
    have c0 : w4.cell? ⟨w.heap.size + 1, 0, none⟩ = some (.bool false) := HH.out.1.cell 0
    exact ⟨.bool false, by simp [results, Try.results27, go_sem, c0], rfl, HH.out.2⟩
theorem pvalid_any (t : Tm) (w : World) (A : Option Addr) (c : Nat) (ht : Tr w t A c) :
    Calls Try.prog 27 #[.agg #[.int .i64 t.op, .int .i64 t.val, .slice A t.args.length c]] w fun e w' => e = .returned (.bool (validT t)) ∧ Below w.heap.size w w' :=
  callsIn_wide.1 (pvalid_wide t A c w ht)
end Go.Proofs.Ytokiodjdonbipaa
