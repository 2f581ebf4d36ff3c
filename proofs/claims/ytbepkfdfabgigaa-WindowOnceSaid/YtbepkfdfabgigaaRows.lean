/-
  No cell of these rows narrows 'for every input' (looked for: loops, veiled, ifaces, maps, wideKeys, modest, calm, conditions, laid).
  DERIVED. THE GIVEN ROWS OF THIS SEAT. 8 by the template 'for every input the law returns true; each argument reads behind the call as it read before'; 0 by the template 'total and deterministic' (their statements: YtbepkfdfabgigaaTotals.lean).
  GIVEN WITH THE SEED: the statements are not yours to turn. If you find one false, say at which input.
  Laid BY PROGRAM, IN A SANDBOX (cutbox-rows.mjs): the forced cells as the released guide's own fill.sh prints them over the translation 120a2e8eb3b55882… (all of the seat's roots in one cut). By AI agents, Wed Nov 11 2026. No macro, syntax, notation, axiom, sorry.
-/
import Derived.Test.YtbepkfdfabgigaaChecked
import GoSem.Claim
import GoSem.ClaimJoined
import GoSem.ClaimMapViews
import Derived.JoinedTies
import Derived.KernelRfl
namespace Go.Proofs.Ytbepkfdfabgigaa
/- THE CELL 'sum', in the pinned program and in every row, IS THE sha256 OF THE DUMP (.gsa) THAT YtbepkfdfabgigaaProg.lean LOADS. Nothing in Lean hashes anything: it is a label: what it is worth is what the hold of that sum in a sandbox is worth. -/
noncomputable def Try.pinned : Pinned := { name := "ytbepkfdfabgigaa", sum := "120a2e8eb3b558823a69dbb4514f8bdeea847b115e2f957ba99ffa60b3e7aca7", checked := Try.checked }
namespace Rows
def none {H : Type} : Left H := { results := [], args := [] }

/-- 'ipsecgatelaw23.WindowInfers': WHATEVER THE INPUT: true; the input reads as it did. -/
def windowInfersSpec : ChangeSpec := { name := "windowInfers", fn := fun _ => fun
  | [d1, d2, d3, d4] => { results := [.lit (.bool true)], args := [d1, d2, d3, d4] }
  | _ => none }
def windowInfersRow : OpenClaim := { program := "ytbepkfdfabgigaa", sum := "120a2e8eb3b558823a69dbb4514f8bdeea847b115e2f957ba99ffa60b3e7aca7", func := "ipsecgate/ipsecgatelaw23.WindowInfers", spec := "windowInfers", apart := false }
def WindowInfersSaid : Prop := windowInfersRow.holds Try.pinned (OpenSpec.ofChange windowInfersSpec)

/-- ITS FALSE NEIGHBOUR: 'it returns false'. Refute it at one input. -/
def windowInfersWrong : ChangeSpec := { name := "windowInfers", fn := fun _ => fun
  | [d1, d2, d3, d4] => { results := [.lit (.bool false)], args := [d1, d2, d3, d4] }
  | _ => none }
def WindowInfersWrongFalsely : Prop := windowInfersRow.holds Try.pinned (OpenSpec.ofChange windowInfersWrong)

/-- 'ipsecgatelaw23.WindowNews': WHATEVER THE INPUT: true; the input reads as it did. -/
def windowNewsSpec : ChangeSpec := { name := "windowNews", fn := fun _ => fun
  | [d] => { results := [.lit (.bool true)], args := [d] }
  | _ => none }
def windowNewsRow : OpenClaim := { program := "ytbepkfdfabgigaa", sum := "120a2e8eb3b558823a69dbb4514f8bdeea847b115e2f957ba99ffa60b3e7aca7", func := "ipsecgate/ipsecgatelaw23.WindowNews", spec := "windowNews", apart := false }
def WindowNewsSaid : Prop := windowNewsRow.holds Try.pinned (OpenSpec.ofChange windowNewsSpec)

/-- ITS FALSE NEIGHBOUR: 'it returns false'. Refute it at one input. -/
def windowNewsWrong : ChangeSpec := { name := "windowNews", fn := fun _ => fun
  | [d] => { results := [.lit (.bool false)], args := [d] }
  | _ => none }
def WindowNewsWrongFalsely : Prop := windowNewsRow.holds Try.pinned (OpenSpec.ofChange windowNewsWrong)

/-- 'ipsecgatelaw23.WindowRefuses': WHATEVER THE INPUT: true; the input reads as it did. -/
def windowRefusesSpec : ChangeSpec := { name := "windowRefuses", fn := fun _ => fun
  | [d1, d2] => { results := [.lit (.bool true)], args := [d1, d2] }
  | _ => none }
def windowRefusesRow : OpenClaim := { program := "ytbepkfdfabgigaa", sum := "120a2e8eb3b558823a69dbb4514f8bdeea847b115e2f957ba99ffa60b3e7aca7", func := "ipsecgate/ipsecgatelaw23.WindowRefuses", spec := "windowRefuses", apart := false }
def WindowRefusesSaid : Prop := windowRefusesRow.holds Try.pinned (OpenSpec.ofChange windowRefusesSpec)

/-- ITS FALSE NEIGHBOUR: 'it returns false'. Refute it at one input. -/
def windowRefusesWrong : ChangeSpec := { name := "windowRefuses", fn := fun _ => fun
  | [d1, d2] => { results := [.lit (.bool false)], args := [d1, d2] }
  | _ => none }
def WindowRefusesWrongFalsely : Prop := windowRefusesRow.holds Try.pinned (OpenSpec.ofChange windowRefusesWrong)

/-- 'ipsecgatelaw23.WindowOnce': WHATEVER THE INPUT: true; the input reads as it did. -/
def windowOnceSpec : ChangeSpec := { name := "windowOnce", fn := fun _ => fun
  | [d1, d2] => { results := [.lit (.bool true)], args := [d1, d2] }
  | _ => none }
def windowOnceRow : OpenClaim := { program := "ytbepkfdfabgigaa", sum := "120a2e8eb3b558823a69dbb4514f8bdeea847b115e2f957ba99ffa60b3e7aca7", func := "ipsecgate/ipsecgatelaw23.WindowOnce", spec := "windowOnce", apart := false }
def WindowOnceSaid : Prop := windowOnceRow.holds Try.pinned (OpenSpec.ofChange windowOnceSpec)

/-- ITS FALSE NEIGHBOUR: 'it returns false'. Refute it at one input. -/
def windowOnceWrong : ChangeSpec := { name := "windowOnce", fn := fun _ => fun
  | [d1, d2] => { results := [.lit (.bool false)], args := [d1, d2] }
  | _ => none }
def WindowOnceWrongFalsely : Prop := windowOnceRow.holds Try.pinned (OpenSpec.ofChange windowOnceWrong)

/-- 'ipsecgatelaw23.WindowTravels': WHATEVER THE INPUT: true; the input reads as it did. -/
def windowTravelsSpec : ChangeSpec := { name := "windowTravels", fn := fun _ => fun
  | [d1, d2] => { results := [.lit (.bool true)], args := [d1, d2] }
  | _ => none }
def windowTravelsRow : OpenClaim := { program := "ytbepkfdfabgigaa", sum := "120a2e8eb3b558823a69dbb4514f8bdeea847b115e2f957ba99ffa60b3e7aca7", func := "ipsecgate/ipsecgatelaw23.WindowTravels", spec := "windowTravels", apart := false }
def WindowTravelsSaid : Prop := windowTravelsRow.holds Try.pinned (OpenSpec.ofChange windowTravelsSpec)

/-- ITS FALSE NEIGHBOUR: 'it returns false'. Refute it at one input. -/
def windowTravelsWrong : ChangeSpec := { name := "windowTravels", fn := fun _ => fun
  | [d1, d2] => { results := [.lit (.bool false)], args := [d1, d2] }
  | _ => none }
def WindowTravelsWrongFalsely : Prop := windowTravelsRow.holds Try.pinned (OpenSpec.ofChange windowTravelsWrong)

/-- 'ipsecgatelaw23.WindowPlays': WHATEVER THE INPUT: true; the input reads as it did. -/
def windowPlaysSpec : ChangeSpec := { name := "windowPlays", fn := fun _ => fun
  | [d1, d2, d3] => { results := [.lit (.bool true)], args := [d1, d2, d3] }
  | _ => none }
def windowPlaysRow : OpenClaim := { program := "ytbepkfdfabgigaa", sum := "120a2e8eb3b558823a69dbb4514f8bdeea847b115e2f957ba99ffa60b3e7aca7", func := "ipsecgate/ipsecgatelaw23.WindowPlays", spec := "windowPlays", apart := false }
def WindowPlaysSaid : Prop := windowPlaysRow.holds Try.pinned (OpenSpec.ofChange windowPlaysSpec)

/-- ITS FALSE NEIGHBOUR: 'it returns false'. Refute it at one input. -/
def windowPlaysWrong : ChangeSpec := { name := "windowPlays", fn := fun _ => fun
  | [d1, d2, d3] => { results := [.lit (.bool false)], args := [d1, d2, d3] }
  | _ => none }
def WindowPlaysWrongFalsely : Prop := windowPlaysRow.holds Try.pinned (OpenSpec.ofChange windowPlaysWrong)

/-- 'ipsecgatelaw23.WindowWider': WHATEVER THE INPUT: true; the input reads as it did. -/
def windowWiderSpec : ChangeSpec := { name := "windowWider", fn := fun _ => fun
  | [d1, d2, d3] => { results := [.lit (.bool true)], args := [d1, d2, d3] }
  | _ => none }
def windowWiderRow : OpenClaim := { program := "ytbepkfdfabgigaa", sum := "120a2e8eb3b558823a69dbb4514f8bdeea847b115e2f957ba99ffa60b3e7aca7", func := "ipsecgate/ipsecgatelaw23.WindowWider", spec := "windowWider", apart := false }
def WindowWiderSaid : Prop := windowWiderRow.holds Try.pinned (OpenSpec.ofChange windowWiderSpec)

/-- ITS FALSE NEIGHBOUR: 'it returns false'. Refute it at one input. -/
def windowWiderWrong : ChangeSpec := { name := "windowWider", fn := fun _ => fun
  | [d1, d2, d3] => { results := [.lit (.bool false)], args := [d1, d2, d3] }
  | _ => none }
def WindowWiderWrongFalsely : Prop := windowWiderRow.holds Try.pinned (OpenSpec.ofChange windowWiderWrong)

/-- 'ipsecgatelaw23.WindowMisses': WHATEVER THE INPUT: true; the input reads as it did. -/
def windowMissesSpec : ChangeSpec := { name := "windowMisses", fn := fun _ => fun
  | [d1, d2] => { results := [.lit (.bool true)], args := [d1, d2] }
  | _ => none }
def windowMissesRow : OpenClaim := { program := "ytbepkfdfabgigaa", sum := "120a2e8eb3b558823a69dbb4514f8bdeea847b115e2f957ba99ffa60b3e7aca7", func := "ipsecgate/ipsecgatelaw23.WindowMisses", spec := "windowMisses", apart := false }
def WindowMissesSaid : Prop := windowMissesRow.holds Try.pinned (OpenSpec.ofChange windowMissesSpec)

/-- ITS FALSE NEIGHBOUR: 'it returns false'. Refute it at one input. -/
def windowMissesWrong : ChangeSpec := { name := "windowMisses", fn := fun _ => fun
  | [d1, d2] => { results := [.lit (.bool false)], args := [d1, d2] }
  | _ => none }
def WindowMissesWrongFalsely : Prop := windowMissesRow.holds Try.pinned (OpenSpec.ofChange windowMissesWrong)

/- THE SECOND FORM. 'bulk': how many values and letters a reading holds, each counted each time it is reached (what is shared counts as often as it is met; a slice's spare places count too). A statement '..UptoSaid' is the law's where the arguments, and the package variables that the reading takes, are together of bulk at most 1048576: NARROWER than '..Said'. Prove '..Said' where nothing that the law and all that it calls make is longer than what came in: it says more and counts as full. Else prove '..UptoSaid'. A law counts once. -/
mutual
def uptoBulk {H : Type} : DataW H → Nat
  | .lit (.string bytes) => bytes.length + 1
  | .lit _ => 1
  | .nil => 1
  | .ptr d => uptoBulk d + 1
  | .slice elems spare => uptoBulkAll elems + uptoBulkAll spare + 1
  | .agg parts => uptoBulkAll parts + 1
  | .iface _ d => uptoBulk d + 1
  | .map entries => uptoBulkEntries entries + 1
  | .held _ => 1
def uptoBulkAll {H : Type} : List (DataW H) → Nat
  | [] => 0
  | d :: r => uptoBulk d + uptoBulkAll r
def uptoBulkEntries {H : Type} : List (Lit × DataW H) → Nat
  | [] => 0
  | x :: r => uptoBulkEntry x + uptoBulkEntries r
def uptoBulkEntry {H : Type} : Lit × DataW H → Nat
  | (.string bytes, d) => bytes.length + uptoBulk d + 1
  | (_, d) => uptoBulk d + 1
 end
def uptoSmall : (H : Type) → List (DataW H) → Bool := fun _ ds => decide (uptoBulkAll ds ≤ 1048576)
def OpenSpec.upto (s : _root_.Go.ChangeSpec) : _root_.Go.OpenSpec := { _root_.Go.OpenSpec.ofChange s with cond := some uptoSmall }

/-- 'ipsecgatelaw23.WindowInfers', WHERE WHAT IT READS IS OF BULK AT MOST 1048576: true; the input reads as it did. -/
def windowInfersUptoRow : OpenClaim := { program := "ytbepkfdfabgigaa", sum := "120a2e8eb3b558823a69dbb4514f8bdeea847b115e2f957ba99ffa60b3e7aca7", func := "ipsecgate/ipsecgatelaw23.WindowInfers", spec := "windowInfers", apart := false, narrowed := true }
def WindowInfersUptoSaid : Prop := windowInfersUptoRow.holds Try.pinned (OpenSpec.upto windowInfersSpec)

/-- 'ipsecgatelaw23.WindowNews', WHERE WHAT IT READS IS OF BULK AT MOST 1048576: true; the input reads as it did. -/
def windowNewsUptoRow : OpenClaim := { program := "ytbepkfdfabgigaa", sum := "120a2e8eb3b558823a69dbb4514f8bdeea847b115e2f957ba99ffa60b3e7aca7", func := "ipsecgate/ipsecgatelaw23.WindowNews", spec := "windowNews", apart := false, narrowed := true }
def WindowNewsUptoSaid : Prop := windowNewsUptoRow.holds Try.pinned (OpenSpec.upto windowNewsSpec)

/-- 'ipsecgatelaw23.WindowRefuses', WHERE WHAT IT READS IS OF BULK AT MOST 1048576: true; the input reads as it did. -/
def windowRefusesUptoRow : OpenClaim := { program := "ytbepkfdfabgigaa", sum := "120a2e8eb3b558823a69dbb4514f8bdeea847b115e2f957ba99ffa60b3e7aca7", func := "ipsecgate/ipsecgatelaw23.WindowRefuses", spec := "windowRefuses", apart := false, narrowed := true }
def WindowRefusesUptoSaid : Prop := windowRefusesUptoRow.holds Try.pinned (OpenSpec.upto windowRefusesSpec)

/-- 'ipsecgatelaw23.WindowOnce', WHERE WHAT IT READS IS OF BULK AT MOST 1048576: true; the input reads as it did. -/
def windowOnceUptoRow : OpenClaim := { program := "ytbepkfdfabgigaa", sum := "120a2e8eb3b558823a69dbb4514f8bdeea847b115e2f957ba99ffa60b3e7aca7", func := "ipsecgate/ipsecgatelaw23.WindowOnce", spec := "windowOnce", apart := false, narrowed := true }
def WindowOnceUptoSaid : Prop := windowOnceUptoRow.holds Try.pinned (OpenSpec.upto windowOnceSpec)

/-- 'ipsecgatelaw23.WindowTravels', WHERE WHAT IT READS IS OF BULK AT MOST 1048576: true; the input reads as it did. -/
def windowTravelsUptoRow : OpenClaim := { program := "ytbepkfdfabgigaa", sum := "120a2e8eb3b558823a69dbb4514f8bdeea847b115e2f957ba99ffa60b3e7aca7", func := "ipsecgate/ipsecgatelaw23.WindowTravels", spec := "windowTravels", apart := false, narrowed := true }
def WindowTravelsUptoSaid : Prop := windowTravelsUptoRow.holds Try.pinned (OpenSpec.upto windowTravelsSpec)

/-- 'ipsecgatelaw23.WindowPlays', WHERE WHAT IT READS IS OF BULK AT MOST 1048576: true; the input reads as it did. -/
def windowPlaysUptoRow : OpenClaim := { program := "ytbepkfdfabgigaa", sum := "120a2e8eb3b558823a69dbb4514f8bdeea847b115e2f957ba99ffa60b3e7aca7", func := "ipsecgate/ipsecgatelaw23.WindowPlays", spec := "windowPlays", apart := false, narrowed := true }
def WindowPlaysUptoSaid : Prop := windowPlaysUptoRow.holds Try.pinned (OpenSpec.upto windowPlaysSpec)

/-- 'ipsecgatelaw23.WindowWider', WHERE WHAT IT READS IS OF BULK AT MOST 1048576: true; the input reads as it did. -/
def windowWiderUptoRow : OpenClaim := { program := "ytbepkfdfabgigaa", sum := "120a2e8eb3b558823a69dbb4514f8bdeea847b115e2f957ba99ffa60b3e7aca7", func := "ipsecgate/ipsecgatelaw23.WindowWider", spec := "windowWider", apart := false, narrowed := true }
def WindowWiderUptoSaid : Prop := windowWiderUptoRow.holds Try.pinned (OpenSpec.upto windowWiderSpec)

/-- 'ipsecgatelaw23.WindowMisses', WHERE WHAT IT READS IS OF BULK AT MOST 1048576: true; the input reads as it did. -/
def windowMissesUptoRow : OpenClaim := { program := "ytbepkfdfabgigaa", sum := "120a2e8eb3b558823a69dbb4514f8bdeea847b115e2f957ba99ffa60b3e7aca7", func := "ipsecgate/ipsecgatelaw23.WindowMisses", spec := "windowMisses", apart := false, narrowed := true }
def WindowMissesUptoSaid : Prop := windowMissesUptoRow.holds Try.pinned (OpenSpec.upto windowMissesSpec)

end Rows
end Go.Proofs.Ytbepkfdfabgigaa
