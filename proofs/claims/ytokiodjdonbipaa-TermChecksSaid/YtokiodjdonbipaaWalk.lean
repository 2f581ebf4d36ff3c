/-
  The contract of the nodes of a term, as an iterator: they come one by one, each ahead of its arguments.
  Conditions: the term lies in memory as a tree.
-/
import Derived.Test.YtokiodjdonbipaaEqD
import Derived.Test.YtokiodjdonbipaaFine
import Derived.RangeFuncNested
import Derived.RangeFuncBound
import Derived.RangeFuncCalls
import Derived.RangeFuncLeaves
import Derived.Shelf.Abstract
import Derived.Shelf.RegionOpen
import Derived.OwnWalkIn
import Derived.TacticsInMore
import Derived.LoopNIn
import Derived.LoopIn
namespace Go.Proofs.Ytokiodjdonbipaa
open Go.RowKit Go.Shelf
set_option linter.unusedVariables false
attribute [local go_sem] Oper.semAt_some
mutual
/-- The nodes with their depths, each ahead of its arguments. -/
def preT : Tm → Int → List (Tm × Int)
  | .mk o v l, d => (.mk o v l, d) :: preL l (wrap64 (d + 1))
def preL : List Tm → Int → List (Tm × Int)
  | [], _ => []
  | x :: xs, d => preT x d ++ preL xs d
end
theorem preT_mk (o v : Int) (l : List Tm) (d : Int) : preT (.mk o v l) d = (.mk o v l, d) :: preL l (wrap64 (d + 1)) := by rw [preT]
theorem preL_nil (d : Int) : preL [] d = [] := by rw [preL]
theorem preL_cons (x : Tm) (xs : List Tm) (d : Int) : preL (x :: xs) d = preT x d ++ preL xs d := by rw [preL]
theorem preL_append (xs ys : List Tm) (d : Int) : preL (xs ++ ys) d = preL xs d ++ preL ys d := by
  induction xs with
  | nil => rw [preL_nil]; rfl
  | cons x xs ih => rw [List.cons_append, preL_cons, preL_cons, ih, List.append_assoc]
theorem room_of_none {F : Fence} (hd : F.depth = none) (k : Nat) : F.room k := fun d h => by rw [hd] at h; cases h
theorem round_any {F : Fence} (hd : F.depth = none) {m m' : Nat} {P : Program} {l : Nat} {f : FuncId} {tmps : Array Value} {assign body : Code} {w : World} {R : Ending → World → Prop}
    (h : RoundIn F m P l f tmps assign body w R) : RoundIn F m' P l f tmps assign body w R := ⟨h.1, fun c cs _ => h.2 c cs (room_of_none hd _)⟩
theorem yield_any {F : Fence} (hd : F.depth = none) {m : Nat} (m' : Nat) {P : Program} {l : Nat} {args : Array Value} {W : World} {R : Ending → World → Prop} (h : YieldAt F m P l args W R) : YieldAt F m' P l args W R := by
  obtain ⟨fn, tmps, assign, body, hy, hR⟩ := h
  exact ⟨fn, tmps, assign, body, hy, round_any hd hR⟩
/-- What a round keeps: every block of cells but those of its own. -/
def Kc (own : Nat → Prop) (A B : World) : Prop := A.heap.size ≤ B.heap.size ∧ ∀ (g : Nat) (cs : Array Value) (ty : TypeId) (fr : Nat × Nat), A.heap[g]? = some (Obj.cells cs ty fr) → ¬ own g → B.heap[g]? = some (Obj.cells cs ty fr)
theorem Kc.refl (own : Nat → Prop) (A : World) : Kc own A A := ⟨Nat.le_refl _, fun _ _ _ _ h _ => h⟩
theorem Kc.trans {own : Nat → Prop} {A B C : World} (h : Kc own A B) (k : Kc own B C) : Kc own A C := ⟨Nat.le_trans h.1 k.1, fun g cs ty fr hg ho => k.2 g cs ty fr (h.2 g cs ty fr hg ho) ho⟩
theorem Kc.alloc {own : Nat → Prop} {A B : World} (h : Kc own A B) (o : Obj) : Kc own A (B.alloc o) :=
  ⟨by have := h.1; simp; omega, fun g cs ty fr hg ho => by
    have h2 := h.2 g cs ty fr hg ho
    exact (Below.heap_alloc B o g (Array.getElem?_eq_some_iff.1 h2).1).trans h2⟩
theorem Kc.put {own : Nat → Prop} (W : World) (l : Nat) (o o' : Obj) (h : W.heap[l]? = some o) (hc : o.isCells = false) : Kc own W (W.putObj l o') := by
  refine ⟨by simp, fun g cs ty fr hg _ => ?_⟩
  have hne : g ≠ l := by
    rintro rfl
    rw [h] at hg
    injection hg with hg
    subst hg
    cases hc
  exact (World.putObj_heap_other hne).trans hg
theorem Kc.blk {own : Nat → Prop} {A B : World} (h : Kc own A B) {g : Nat} {ty : TypeId} {cs : Array Value} (hb : Blk A g ty cs) (ho : ¬ own g) : Blk B g ty cs := h.2 g cs ty (0, 0) hb ho
/-- The cells that lay in w0 lie in W. -/
def Bk (w0 W : World) : Prop := w0.heap.size ≤ W.heap.size ∧ ∀ (g : Nat) (cs : Array Value) (ty : TypeId) (fr : Nat × Nat), w0.heap[g]? = some (Obj.cells cs ty fr) → W.heap[g]? = some (Obj.cells cs ty fr)
theorem Bk.of_below {w0 W : World} (h : Below w0.heap.size w0 W) : Bk w0 W := ⟨h.size, fun g cs ty fr hg => (h.block g (Array.getElem?_eq_some_iff.1 hg).1).trans hg⟩
theorem Bk.kc {w0 W W' : World} {own : Nat → Prop} (h : Bk w0 W) (k : Kc own W W') (ho : ∀ g, own g → w0.heap.size ≤ g) : Bk w0 W' :=
  ⟨Nat.le_trans h.1 k.1, fun g cs ty fr hg => k.2 g cs ty fr (h.2 g cs ty fr hg) (fun e => by have := ho g e; have := (Array.getElem?_eq_some_iff.1 hg).1; omega)⟩
theorem cell_cells {w w' : World} {a : Addr} {v : Value} (h : w.cell? a = some v) (hb : ∀ (cs : Array Value) (ty : TypeId) (fr : Nat × Nat), w.heap[a.block]? = some (Obj.cells cs ty fr) → w'.heap[a.block]? = some (Obj.cells cs ty fr)) : w'.cell? a = some v := by
  unfold World.cell? at h ⊢
  split at h
  · rename_i cs ty fr hh
    rw [hb _ _ _ hh]
    exact h
  · cases h
theorem Tr.bk {w0 W : World} {t : Tm} {A : Option Addr} {c : Nat} (h : Tr w0 t A c) (hb : Bk w0 W) : Tr W t A c := by
  induction h with
  | mk AA CC ho hv hl hc hcell hrec ih =>
    refine .mk AA CC ho hv hl hc (fun i hi => ?_) ih
    obtain ⟨g, k, hA, h0, h1, h2⟩ := hcell i hi
    exact ⟨g, k, hA, cell_cells h0 (hb.2 g), cell_cells h1 (hb.2 g), cell_cells h2 (hb.2 g)⟩
/-- What is yielded: a term that lies in memory from the world w0 on, and its depth. -/
structure Nd (w0 : World) where
  t : Tm
  A : Option Addr
  c : Nat
  d : Int
  tr : Tr w0 t A c
  hd : fits d
def Nd.td {w0 : World} (x : Nd w0) : Tm × Int := (x.t, x.d)
def Nd.enc {w0 : World} (x : Nd w0) : Array Value := #[.agg #[.int .i64 x.t.op, .int .i64 x.t.val, .slice x.A x.t.args.length x.c], .int .i64 x.d]
theorem wrap64_fits' (x : Int) : fits (wrap64 x) := by unfold fits wrap64; omega
def WalkPost (w0 : World) (own : Nat → Prop) (J Jx : List (Nd w0) → World → Prop) (pre : List (Nd w0)) (xs : List (Tm × Int)) (W : World) (e : Ending) (W' : World) : Prop :=
  (e = .returned (.bool true) ∧ (∃ q, q.map Nd.td = xs ∧ J (pre ++ q) W') ∧ Kc own W W') ∨ (e = .returned (.bool false) ∧ ∃ q, q.map Nd.td <+: xs ∧ Jx (pre ++ q) W')
theorem preL_take {l : List Tm} {k : Nat} {d : Int} (h : k < l.length) : preL (l.take (k + 1)) d = preL (l.take k) d ++ preT l[k] d := by
  rw [List.take_succ_eq_append_getElem h, preL_append, preL_cons, preL_nil, List.append_nil]
theorem preL_pre {l : List Tm} {k : Nat} {d : Int} : preL (l.take k) d <+: preL l d := by
  refine ⟨preL (l.drop k) d, ?_⟩
  rw [← preL_append, List.take_append_drop]
set_option maxRecDepth 100000 in
set_option maxHeartbeats 2000000 in
theorem fwalk_any (F : Fence) (hd : F.depth = none) (hw : F.fn 57) (hro : F.round = none) (l B1 : Nat) (w0 : World) (own : Nat → Prop) (hown : ∀ g, own g → w0.heap.size ≤ g ∧ g < B1) (N : Nat) (J Jx : List (Nd w0) → World → Prop)
    (hJa : ∀ s W o, J s W → J s (W.alloc o))
    (hY : ∀ m pre x W, J pre W → pre.length < N → YieldAt F m Try.prog l x.enc W fun e W' =>
      (e = .returned (.bool true) ∧ J (pre ++ [x]) W' ∧ Kc own W W') ∨ (e = .returned (.bool false) ∧ Jx (pre ++ [x]) W')) (t : Tm) :
    ∀ (n : Nat) (A : Option Addr) (c : Nat) (d : Int) (pre : List (Nd w0)) (W : World), Tr w0 t A c → fits d → Bk w0 W → B1 ≤ W.heap.size → J pre W → pre.length + (preT t d).length ≤ N →
      CallsIn F n Try.prog 57 #[.agg #[.int .i64 t.op, .int .i64 t.val, .slice A t.args.length c], .int .i64 d, .func (.yield l) #[] #[]] W (WalkPost w0 own J Jx pre (preT t d) W) := by
  refine Tm.ind (P := fun t => ∀ (n : Nat) (A : Option Addr) (c : Nat) (d : Int) (pre : List (Nd w0)) (W : World), Tr w0 t A c → fits d → Bk w0 W → B1 ≤ W.heap.size → J pre W → pre.length + (preT t d).length ≤ N →
      CallsIn F n Try.prog 57 #[.agg #[.int .i64 t.op, .int .i64 t.val, .slice A t.args.length c], .int .i64 d, .func (.yield l) #[] #[]] W (WalkPost w0 own J Jx pre (preT t d) W)) ?_ t
  intro o v ts ih n A c d pre W ht hfd hbk hB1 hJ hN
  have hdd : ∀ k : Nat, (F.depth.isSome = true → 1 ≤ k) := fun k h => by rw [hd] at h; cases h
  simp only [Tm.op_mk, Tm.val_mk, Tm.args_mk]
  rw [preT_mk] at hN ⊢
  simp only [List.length_cons] at hN
  have hfl := ht.ofits.2.2
  simp only [Tm.args_mk] at hfl
  unfold maxLen at hfl
  have hJ1 := hJa _ _ (Obj.cells #[.int .i64 o, .int .i64 v, .slice A ts.length c] 24) hJ
  have b1 : Blk (W.alloc (Obj.cells #[.int .i64 o, .int .i64 v, .slice A ts.length c] 24)) W.heap.size 24 #[.int .i64 o, .int .i64 v, .slice A ts.length c] := heap_alloc_new W _
  have hno : ¬ own W.heap.size := fun e => by have := (hown _ e).2; omega
  have hbk1 : Bk w0 (W.alloc (Obj.cells #[.int .i64 o, .int .i64 v, .slice A ts.length c] 24)) := hbk.kc ((Kc.refl own W).alloc _) (fun g e => (hown g e).1)
  have hsz1 : W.heap.size < (W.alloc (Obj.cells #[.int .i64 o, .int .i64 v, .slice A ts.length c] 24)).heap.size := by simp
  have hkc1 : Kc own W (W.alloc (Obj.cells #[.int .i64 o, .int .i64 v, .slice A ts.length c] 24)) := (Kc.refl own W).alloc _
  obtain ⟨fn, tmps, assign, body, hy, hR⟩ := hY (n - 1) pre ⟨.mk o v ts, A, c, d, ht, hfd⟩ _ hJ1 (by omega)
  simp only [Nd.enc, Tm.op_mk, Tm.val_mk, Tm.args_mk] at hy
  have HIH := Lib.hid ih
  have HT := Lib.hid ht
  have HB := Lib.hid (And.intro b1 (And.intro hbk1 (And.intro hkc1 hno)))
  have HFD := Lib.hid hfd
  have HBK := Lib.hid hbk
  clear ih b1 hbk1 hkc1 hno hJ hbk
  refine callsIn_of_wp Try.func57 rfl hw ?_ hro
  simp only [Try.ntmps57, List.size_toArray, List.length_cons, List.length_nil, Nat.reduceAdd, Nat.reduceSub, Array.replicate_succ, Array.replicate_zero, List.push_toArray, List.append_toArray, List.nil_append, List.cons_append]
  gi_wp2
  generalize W.alloc (Obj.cells #[.int .i64 o, .int .i64 v, .slice A ts.length c] 24) = W1 at *
  refine hR.mono ?_
  clear hR hy
  rintro e W2 (⟨rfl, hJ2, hk2⟩ | ⟨rfl, hx2⟩)
  · have b2 := hk2.blk HB.out.1 HB.out.2.2.2
    have c2 : W2.cell? ⟨W.heap.size, 2, none⟩ = some (.slice A ts.length c) := b2.cell 2
    have HJ2 := Lib.hid hJ2
    have HK2 := Lib.hid hk2
    clear b2 hJ2 hk2
    gi_wp2
    gi_loopw [17] (fun i wr => ∃ k : Nat, ∃ q : List (Nd w0), k ≤ ts.length ∧ i = .int .i64 k ∧ q.map Nd.td = (Tm.mk o v ts, d) :: preL (ts.take k) (wrap64 (d + 1)) ∧ J (pre ++ q) wr ∧ Kc own W wr) (fun i _ => ts.length - (intOf i).toNat)
    case atStart => exact ⟨0, [⟨.mk o v ts, A, c, d, ht, hfd⟩], Nat.zero_le _, rfl, by rw [List.take_zero, preL_nil]; rfl, HJ2.out, HB.out.2.2.1.trans HK2.out⟩
    case round =>
      obtain ⟨k, q, hk, rfl, hq, hJr, hkr⟩ := hrel
      have HQ := Lib.hid hq
      have HJR := Lib.hid hJr
      have HKR := Lib.hid hkr
      have hszr : W.heap.size ≤ wr.heap.size := hkr.1
      clear hq hJr hkr
      by_cases hkl : k < ts.length
      · obtain ⟨g, k0, AA, CC, hAe, c0, c1, c3, htr⟩ := ht.at k hkl
        simp only [Tm.args_mk] at c0 c1 c3 htr
        have hbr : Bk w0 wr := HBK.out.kc HKR.out (fun g e => (hown g e).1)
        have d0 := cell_cells c0 (hbr.2 g)
        have d1 := cell_cells c1 (hbr.2 g)
        have d3 := cell_cells c3 (hbr.2 g)
        have x1 : (0 : Int) ≤ (k : Int) := by omega
        have x2 : (k : Int) < (ts.length : Int) := by omega
        have hqlen : q.length = 1 + (preL (ts.take k) (wrap64 (d + 1))).length := by have := congrArg List.length HQ.out; simpa [Nat.add_comm] using this
        have hpl : (preL (ts.take k) (wrap64 (d + 1))).length + (preT ts[k] (wrap64 (d + 1))).length ≤ (preL ts (wrap64 (d + 1))).length := by
          have h1 := (preL_pre (l := ts) (k := k + 1) (d := wrap64 (d + 1))).length_le
          rw [preL_take hkl, List.length_append] at h1
          exact h1
        have hcall := HIH.out ts[k] (List.getElem_mem hkl) (n - 1) AA CC (wrap64 (d + 1)) (pre ++ q) (wr.alloc (Obj.cells #[.int .i64 (ts[k]).op, .int .i64 (ts[k]).val, .slice AA (ts[k]).args.length CC] 24)) htr (wrap64_fits' _)
          (hbr.kc ((Kc.refl own wr).alloc _) (fun g e => (hown g e).1)) (by simp; omega) (hJa _ _ _ HJR.out) (by rw [List.length_append, hqlen]; omega)
        have HCALL := Lib.hid hcall
        clear hcall c0 c1 c3 htr hbr hqlen hpl
        subst hAe
        gi_wp2_with ((try refine ⟨hdd _, ?_⟩); gi_at_call 57; refine HCALL.out.mono ?_; rintro e W3 (⟨rfl, ⟨q', hq', hJ3⟩, hk3⟩ | ⟨rfl, q', hq', hx3⟩))
        · go_roundw
          case rel => exact ⟨k + 1, q ++ q', by omega, by go_num, by rw [List.map_append, HQ.out, hq', preL_take hkl]; rfl, by rw [← List.append_assoc]; exact hJ3, HKR.out.trans (((Kc.refl own wr).alloc _).trans hk3)⟩
          case measure => simp [intOf]; omega
        · go_ret
          exact .inr ⟨rfl, q ++ q', by
            rw [List.map_append, HQ.out]
            obtain ⟨r, hr⟩ := hq'
            obtain ⟨r2, hr2⟩ := preL_pre (l := ts) (k := k + 1) (d := wrap64 (d + 1))
            rw [preL_take hkl] at hr2
            exact ⟨r ++ r2, by rw [← hr2, ← hr]; simp⟩, by rw [← List.append_assoc]; exact hx3⟩
      · have x2 : decide ((k : Int) < (ts.length : Int)) = false := by simp; omega
        have e1 : ts.take k = ts := List.take_of_length_le (by omega)
        rw [e1] at HQ
        clear e1
        gi_wp2
        go_ret
        exact .inl ⟨rfl, ⟨q, HQ.out, HJR.out⟩, HKR.out⟩
  · have HX2 := Lib.hid hx2
    clear hx2
    gi_wp2
    go_ret
    exact .inr ⟨rfl, [⟨.mk o v ts, A, c, d, HT.out, HFD.out⟩], ⟨preL ts (wrap64 (d + 1)), rfl⟩, HX2.out⟩
set_option maxHeartbeats 1000000 in
theorem nodes1_in (F : Fence) (hd : F.depth = none) (n : Nat) (h5 : F.fn 56) (h6 : F.fn 57) (hro : F.round = none) (l Bt B1 : Nat) (w0 : World) (own : Nat → Prop) (hown : ∀ g, own g → w0.heap.size ≤ g ∧ g < B1) (t : Tm) (A : Option Addr) (c : Nat) (J Jx : List (Nd w0) → World → Prop)
    (hJa : ∀ s W o, J s W → J s (W.alloc o))
    (hY : ∀ pre x W, J pre W → pre.length < (preT t 1).length → YieldAt F (n - 1) Try.prog l x.enc W fun e W' =>
      (e = .returned (.bool true) ∧ J (pre ++ [x]) W' ∧ Kc own W W') ∨ (e = .returned (.bool false) ∧ Jx (pre ++ [x]) W'))
    (W : World) (hBt : Blk W Bt 24 #[.int .i64 t.op, .int .i64 t.val, .slice A t.args.length c]) (ht : Tr w0 t A c) (hbk : Bk w0 W) (hB1 : B1 ≤ W.heap.size) (h0 : J [] W) :
    CallsIn F n Try.prog 56 #[.func (.yield l) #[] #[], .pointer (some ⟨Bt, 0, none⟩)] W fun e W' => (∃ v, e = .returned v) ∧
      ((∃ ys : List (Nd w0), ys.map Nd.td = preT t 1 ∧ J ys W') ∨ (∃ pre : List (Nd w0), pre.map Nd.td <+: preT t 1 ∧ Jx pre W')) := by
  have hdd : ∀ k : Nat, (F.depth.isSome = true → 1 ≤ k) := fun k h => by rw [hd] at h; cases h
  have hp := fwalk_any F hd h6 hro l B1 w0 own hown (preT t 1).length J Jx hJa (fun m pre x W hj hl => yield_any hd m (hY pre x W hj hl)) t (n - 1) A c 1 [] W ht (by unfold fits; omega) hbk hB1 h0 (by simp)
  have HP := Lib.hid hp
  have c0 : W.cell? ⟨Bt, 0, none⟩ = some (.int .i64 t.op) := hBt.cell 0
  have c1 : W.cell? ⟨Bt, 1, none⟩ = some (.int .i64 t.val) := hBt.cell 1
  have c2 : W.cell? ⟨Bt, 2, none⟩ = some (.slice A t.args.length c) := hBt.cell 2
  clear hp h0
  refine callsIn_of_wp Try.func56 rfl h5 ?_ hro
  simp only [Try.ntmps56, List.size_toArray, List.length_cons, List.length_nil, Nat.reduceAdd, Nat.reduceSub, Array.replicate_succ, Array.replicate_zero, List.push_toArray, List.append_toArray, List.nil_append, List.cons_append]
  gi_wp2_with ((try refine ⟨hdd _, ?_⟩); gi_at_call 57; refine HP.out.mono ?_; rintro e W1 (⟨rfl, ⟨q, hq, hJ1⟩, _⟩ | ⟨rfl, q, hq, hx⟩))
  · go_end0
    exact ⟨⟨_, rfl⟩, .inl ⟨q, hq, by simpa using hJ1⟩⟩
  · go_end0
    exact ⟨⟨_, rfl⟩, .inr ⟨q, hq, by simpa using hx⟩⟩
set_option maxHeartbeats 1000000 in
theorem nodes_in (F : Fence) (n : Nat) (h4 : F.fn 51) (hro : F.round = none) (t : Tm) (A : Option Addr) (c : Nat) (w : World) :
    CallsIn F n Try.prog 51 #[.agg #[.int .i64 t.op, .int .i64 t.val, .slice A t.args.length c]] w fun e w' => e = .returned (.func (.func 56) #[] #[.pointer (some ⟨w.heap.size, 0, none⟩)]) ∧ w' = w.alloc (.cells #[.int .i64 t.op, .int .i64 t.val, .slice A t.args.length c] 24) := by
  refine callsIn_of_wp Try.func51 rfl h4 ?_ hro
  simp only [Try.ntmps51, List.size_toArray, List.length_cons, List.length_nil, Nat.reduceAdd, Nat.reduceSub, Array.replicate_succ, Array.replicate_zero, List.push_toArray, List.append_toArray, List.nil_append, List.cons_append]
  gi_wp2
  go_ret
  exact ⟨rfl, rfl⟩
theorem nodes_stops (F : Fence) (hd : F.depth = none) (n : Nat) (h5 : F.fn 56) (h6 : F.fn 57) (hro : F.round = none) (Bt : Nat) (w0 : World) (own : Nat → Prop) (t : Tm) (A : Option Addr) (c : Nat) (w : World) (hown : ∀ g, own g → w0.heap.size ≤ g ∧ g < w.heap.size)
    (hBt : Blk w Bt 24 #[.int .i64 t.op, .int .i64 t.val, .slice A t.args.length c]) (ht : Tr w0 t A c) (hbk : Bk w0 w) :
    SeqStopsK F n Try.prog 56 #[.pointer (some ⟨Bt, 0, none⟩)] (fun x : Nd w0 => x.enc) (Kc own) (fun ys => ys.map Nd.td = preT t 1) (fun pre => pre.map Nd.td <+: preT t 1) (preT t 1).length w := fun l J Jx W hW hJ _ hY h0 =>
  nodes1_in F hd n h5 h6 hro l Bt w.heap.size w0 own hown t A c J Jx (fun s W o h => hJ s W _ none h (World.grownBy_alloc W o none) (fun r e => by cases e)) hY W (hBt.below hW hBt.lt) ht (hbk.kc ⟨hW.size, fun g cs ty fr hg _ => (hW.block g (Array.getElem?_eq_some_iff.1 hg).1).trans hg⟩ (fun g e => (hown g e).1)) hW.size h0
end Go.Proofs.Ytokiodjdonbipaa
