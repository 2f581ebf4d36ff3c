/-
  A law that draws two gateways itself, and goes on from there.
  Conditions: none.
-/
import Derived.Test.YtbfppnppijcnlaaGreatOr
namespace Go.Proofs.YtbfppnppijcnlaaGreat
namespace Ab
open Go.RowKit
set_option linter.unusedVariables false
set_option linter.unusedSimpArgs false
set_option maxRecDepth 100000
noncomputable def tLaw : Tell := { f := [], fc := [], src := id, p := fun j => Nat.blt j 30, lit := fun _ => none }
section
variable {V0 : Nat → Value} {q : Ls} {ga : Nat} {row : Array Value} {hl : Bool}
theorem law_gw (hL : LsOK hl q ga row) (hone : ∀ i, (V0 i).oneCell' = true) {i0 i1 d id : Nat} {ops : Array Oper} {u t : Sl} {s : St} (hck : gwStart hl i0 i1 d ops tLaw u ⟨[], 0, 0, []⟩ t s = true) {fn : Func} {w0 : World} {l : List Code}
    (hall : ∀ c t' nar V' DK wK w2 a', c < 6 → (t' = 1 ∨ t' = 2) → (∀ j, j < 30 → V' j = V0 j) → NetOK V' DK wK t' nar → (∀ w', RowKit.Below w0.heap.size w2 w' → RowKit.Below w0.heap.size w0 w') → HereK DK wK V' w0.heap.size w2 (lset u d (gwV c ⟨[], 0, 0, []⟩)) (gwSt c ⟨[], 0, 0, []⟩) a' w2 → wpOps Tryz.prog ops (Exit.then (wpL Tryz.prog (LawQ fn w0) l) (LawQ fn w0)) (List.range' 2 (ops.size - 2)) a' w2)
    {a : Act} {w : World} (hh : HereC V0 q ga row w0.heap.size w0 t s a w) : wpL Tryz.prog (LawQ fn w0) (.region id ops false :: l) a w := by
  obtain ⟨b, p, _, ρ, ht, hr, h1, h2, h3, h4, h5⟩ := hh
  show (Code.region id ops false).wp Tryz.prog (Exit.then (wpL Tryz.prog (LawQ fn w0) l) (LawQ fn w0)) a w
  refine gw_region hL hone hone (T := tLaw) (fun j hj => ⟨Nat.le_of_ble_eq_true hj, rfl, rfl⟩) (fun j => rfl) rfl hck ht hr ⟨h1, h2⟩ (base := w0.heap.size) (fun i c e => .inl (h3 i c e)) h5 (fun c t' nar V' DK wK w2 a' g hc6 htt hVA hN hg0 hgr hh => ?_)
  obtain ⟨o1, o2, o3, o4, o5⟩ := hgr
  refine hall c t' nar V' DK wK w2 a' hc6 htt hVA hN (fun w' hb => ?_) hh
  have hg : w0.heap.size ≤ g := h3 _ _ hg0
  exact (h4.trans ⟨o1, o2, o3, o4, fun i hi => o5 i hi (by omega)⟩).trans hb
end
/-- An environment of the templates, with a table and conversions of its own. -/
noncomputable def eNetT (tab : BinOp → AC → AC → Option AC) (cvt : IntKind → AC → Option AC) (t : Nat) (nar : Bool) : Env := env tab cvt (netE t nar)
theorem netT_okK {V : Nat → Value} {DK : Nat → Prop} {wK : World} {t : Nat} {nar : Bool} {tab : BinOp → AC → AC → Option AC} {cvt : IntKind → AC → Option AC} (htab : ∀ op a b z, tab op a b = some z → ∀ ρ u v, CR V ρ a u → CR V ρ b v → ∃ k n k' n' c, u = .int k n ∧ v = .int k' n' ∧ CR V ρ z c ∧ ∀ xt, binOp op xt u v = .pure c)
    (hcvt : ∀ k i z, cvt k (.sym i) = some z → ∀ ρ, ∃ k' n, V i = .int k' n ∧ CR V ρ z (.int k (k.wrap n))) (N : NetOK V DK wK t nar) : EnvOK Tryz.prog V (eNetT tab cvt t nar) ∧ ExtOKK DK wK Tryz.prog V (eNetT tab cvt t nar) := by
  obtain ⟨h1, h2⟩ := net_okK N
  exact ⟨env_ok htab hcvt N.one, ⟨h2.ok, h2.up, h2.fn⟩⟩
end Ab
end Go.Proofs.YtbfppnppijcnlaaGreat
