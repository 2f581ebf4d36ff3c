/-
  No cell of these rows narrows 'for every input' (looked for: loops, veiled, ifaces, maps, wideKeys, modest, calm, conditions, laid).
  DERIVED. THE GIVEN ROWS OF THIS SEAT. 6 by the template 'for every input the law returns true; each argument reads behind the call as it read before'; 0 by the template 'total and deterministic' (their statements: YtbfppnppijcnlaaGreatTotals.lean).
  GIVEN WITH THE SEED: the statements are not yours to turn. If you find one false, say at which input.
  Laid BY PROGRAM, IN A SANDBOX (cutbox-rows.mjs): the forced cells as the released guide's own fill.sh prints them over the translation 4040c1fdd97f6a10… (all of the seat's roots in one cut). By AI agents, Wed Nov 11 2026. No macro, syntax, notation, axiom, sorry.
-/
import Derived.Test.YtbfppnppijcnlaaGreatChecked
import GoSem.Claim
import GoSem.ClaimJoined
import GoSem.ClaimMapViews
import Derived.JoinedTies
import Derived.KernelRfl
namespace Go.Proofs.YtbfppnppijcnlaaGreat
/- THE CELL 'sum', in the pinned program and in every row, IS THE sha256 OF THE DUMP (.gsa) THAT YtbfppnppijcnlaaGreatProg.lean LOADS. Nothing in Lean hashes anything: it is a label: what it is worth is what the hold of that sum in a sandbox is worth. -/
noncomputable def Tryz.pinned : Pinned := { name := "ytbfppnppijcnlaagreat", sum := "4040c1fdd97f6a1031b20638988a4d32f6dec9041d899679f3f20ba572a41544", checked := Tryz.checked }
namespace Rows
def none {H : Type} : Left H := { results := [], args := [] }

/-- 'ipsecgatelaw37.RekeyikeMoves': WHATEVER THE INPUT: true; the input reads as it did. -/
def rekeyikeMovesSpec : ChangeSpec := { name := "rekeyikeMoves", fn := fun _ => fun
  | [d1, d2] => { results := [.lit (.bool true)], args := [d1, d2] }
  | _ => none }
def rekeyikeMovesRow : OpenClaim := { program := "ytbfppnppijcnlaagreat", sum := "4040c1fdd97f6a1031b20638988a4d32f6dec9041d899679f3f20ba572a41544", func := "ipsecgate/ipsecgatelaw37.RekeyikeMoves", spec := "rekeyikeMoves", unfollowed := true, recurses := true, apart := false }
def RekeyikeMovesSaid : Prop := rekeyikeMovesRow.holds Tryz.pinned (OpenSpec.ofChange rekeyikeMovesSpec)

/-- ITS FALSE NEIGHBOUR: 'it returns false'. Refute it at one input. -/
def rekeyikeMovesWrong : ChangeSpec := { name := "rekeyikeMoves", fn := fun _ => fun
  | [d1, d2] => { results := [.lit (.bool false)], args := [d1, d2] }
  | _ => none }
def RekeyikeMovesWrongFalsely : Prop := rekeyikeMovesRow.holds Tryz.pinned (OpenSpec.ofChange rekeyikeMovesWrong)

/-- 'ipsecgatelaw37.RekeyikeRefuses': WHATEVER THE INPUT: true; the input reads as it did. -/
def rekeyikeRefusesSpec : ChangeSpec := { name := "rekeyikeRefuses", fn := fun _ => fun
  | [d1, d2, d3] => { results := [.lit (.bool true)], args := [d1, d2, d3] }
  | _ => none }
def rekeyikeRefusesRow : OpenClaim := { program := "ytbfppnppijcnlaagreat", sum := "4040c1fdd97f6a1031b20638988a4d32f6dec9041d899679f3f20ba572a41544", func := "ipsecgate/ipsecgatelaw37.RekeyikeRefuses", spec := "rekeyikeRefuses", unfollowed := true, recurses := true, apart := false }
def RekeyikeRefusesSaid : Prop := rekeyikeRefusesRow.holds Tryz.pinned (OpenSpec.ofChange rekeyikeRefusesSpec)

/-- ITS FALSE NEIGHBOUR: 'it returns false'. Refute it at one input. -/
def rekeyikeRefusesWrong : ChangeSpec := { name := "rekeyikeRefuses", fn := fun _ => fun
  | [d1, d2, d3] => { results := [.lit (.bool false)], args := [d1, d2, d3] }
  | _ => none }
def RekeyikeRefusesWrongFalsely : Prop := rekeyikeRefusesRow.holds Tryz.pinned (OpenSpec.ofChange rekeyikeRefusesWrong)

/-- 'ipsecgatelaw37.RekeyikeReplaces': WHATEVER THE INPUT: true; the input reads as it did. -/
def rekeyikeReplacesSpec : ChangeSpec := { name := "rekeyikeReplaces", fn := fun _ => fun
  | [d] => { results := [.lit (.bool true)], args := [d] }
  | _ => none }
def rekeyikeReplacesRow : OpenClaim := { program := "ytbfppnppijcnlaagreat", sum := "4040c1fdd97f6a1031b20638988a4d32f6dec9041d899679f3f20ba572a41544", func := "ipsecgate/ipsecgatelaw37.RekeyikeReplaces", spec := "rekeyikeReplaces", unfollowed := true, recurses := true, apart := false }
def RekeyikeReplacesSaid : Prop := rekeyikeReplacesRow.holds Tryz.pinned (OpenSpec.ofChange rekeyikeReplacesSpec)

/-- ITS FALSE NEIGHBOUR: 'it returns false'. Refute it at one input. -/
def rekeyikeReplacesWrong : ChangeSpec := { name := "rekeyikeReplaces", fn := fun _ => fun
  | [d] => { results := [.lit (.bool false)], args := [d] }
  | _ => none }
def RekeyikeReplacesWrongFalsely : Prop := rekeyikeReplacesRow.holds Tryz.pinned (OpenSpec.ofChange rekeyikeReplacesWrong)

/-- 'ipsecgatelaw37.RekeyikeCollides': WHATEVER THE INPUT: true; the input reads as it did. -/
def rekeyikeCollidesSpec : ChangeSpec := { name := "rekeyikeCollides", fn := fun _ => fun
  | [d1, d2] => { results := [.lit (.bool true)], args := [d1, d2] }
  | _ => none }
def rekeyikeCollidesRow : OpenClaim := { program := "ytbfppnppijcnlaagreat", sum := "4040c1fdd97f6a1031b20638988a4d32f6dec9041d899679f3f20ba572a41544", func := "ipsecgate/ipsecgatelaw37.RekeyikeCollides", spec := "rekeyikeCollides", unfollowed := true, recurses := true, apart := false }
def RekeyikeCollidesSaid : Prop := rekeyikeCollidesRow.holds Tryz.pinned (OpenSpec.ofChange rekeyikeCollidesSpec)

/-- ITS FALSE NEIGHBOUR: 'it returns false'. Refute it at one input. -/
def rekeyikeCollidesWrong : ChangeSpec := { name := "rekeyikeCollides", fn := fun _ => fun
  | [d1, d2] => { results := [.lit (.bool false)], args := [d1, d2] }
  | _ => none }
def RekeyikeCollidesWrongFalsely : Prop := rekeyikeCollidesRow.holds Tryz.pinned (OpenSpec.ofChange rekeyikeCollidesWrong)

/-- 'ipsecgatelaw32.NatFinds': WHATEVER THE INPUT: true; the input reads as it did. -/
def natFindsSpec : ChangeSpec := { name := "natFinds", fn := fun _ => fun
  | [d1, d2, d3] => { results := [.lit (.bool true)], args := [d1, d2, d3] }
  | _ => none }
def natFindsRow : OpenClaim := { program := "ytbfppnppijcnlaagreat", sum := "4040c1fdd97f6a1031b20638988a4d32f6dec9041d899679f3f20ba572a41544", func := "ipsecgate/ipsecgatelaw32.NatFinds", spec := "natFinds", recurses := true, apart := false }
def NatFindsSaid : Prop := natFindsRow.holds Tryz.pinned (OpenSpec.ofChange natFindsSpec)

/-- ITS FALSE NEIGHBOUR: 'it returns false'. Refute it at one input. -/
def natFindsWrong : ChangeSpec := { name := "natFinds", fn := fun _ => fun
  | [d1, d2, d3] => { results := [.lit (.bool false)], args := [d1, d2, d3] }
  | _ => none }
def NatFindsWrongFalsely : Prop := natFindsRow.holds Tryz.pinned (OpenSpec.ofChange natFindsWrong)

/-- 'ipsecgatelaw38.LivenessKeeps': WHATEVER THE INPUT: true; the input reads as it did. -/
def livenessKeepsSpec : ChangeSpec := { name := "livenessKeeps", fn := fun _ => fun
  | [d1, d2] => { results := [.lit (.bool true)], args := [d1, d2] }
  | _ => none }
def livenessKeepsRow : OpenClaim := { program := "ytbfppnppijcnlaagreat", sum := "4040c1fdd97f6a1031b20638988a4d32f6dec9041d899679f3f20ba572a41544", func := "ipsecgate/ipsecgatelaw38.LivenessKeeps", spec := "livenessKeeps", unfollowed := true, recurses := true, apart := false }
def LivenessKeepsSaid : Prop := livenessKeepsRow.holds Tryz.pinned (OpenSpec.ofChange livenessKeepsSpec)

/-- ITS FALSE NEIGHBOUR: 'it returns false'. Refute it at one input. -/
def livenessKeepsWrong : ChangeSpec := { name := "livenessKeeps", fn := fun _ => fun
  | [d1, d2] => { results := [.lit (.bool false)], args := [d1, d2] }
  | _ => none }
def LivenessKeepsWrongFalsely : Prop := livenessKeepsRow.holds Tryz.pinned (OpenSpec.ofChange livenessKeepsWrong)

/- THE SECOND FORM. 'bulk': how many values and letters a reading holds, each counted each time it is reached (what is shared counts as often as it is met; a slice's spare places count too). A statement '..UptoSaid' is the law's where the arguments, and the package variables that the reading takes, are together of bulk at most 1048576: NARROWER than '..Said'. Prove '..Said' where nothing that the law and all that it calls make is longer than what came in: it says more and counts as full. Else prove '..UptoSaid'. A law counts once. -/
mutual
def uptoBulk {H : Type} : DataW H → Nat
  | .lit (.string bytes) => bytes.length + 1
  | .lit _ => 1
  | .nil => 1
  | .ptr d => uptoBulk d + 1
  | .slice elems spare => uptoBulkAll elems + uptoBulkAll spare + 1
  | .agg parts => uptoBulkAll parts + 1
  | .iface _ d => uptoBulk d + 1
  | .map entries => uptoBulkEntries entries + 1
  | .held _ => 1
def uptoBulkAll {H : Type} : List (DataW H) → Nat
  | [] => 0
  | d :: r => uptoBulk d + uptoBulkAll r
def uptoBulkEntries {H : Type} : List (Lit × DataW H) → Nat
  | [] => 0
  | x :: r => uptoBulkEntry x + uptoBulkEntries r
def uptoBulkEntry {H : Type} : Lit × DataW H → Nat
  | (.string bytes, d) => bytes.length + uptoBulk d + 1
  | (_, d) => uptoBulk d + 1
 end
def uptoSmall : (H : Type) → List (DataW H) → Bool := fun _ ds => decide (uptoBulkAll ds ≤ 1048576)
def OpenSpec.upto (s : _root_.Go.ChangeSpec) : _root_.Go.OpenSpec := { _root_.Go.OpenSpec.ofChange s with cond := some uptoSmall }

/-- 'ipsecgatelaw37.RekeyikeMoves', WHERE WHAT IT READS IS OF BULK AT MOST 1048576: true; the input reads as it did. -/
def rekeyikeMovesUptoRow : OpenClaim := { program := "ytbfppnppijcnlaagreat", sum := "4040c1fdd97f6a1031b20638988a4d32f6dec9041d899679f3f20ba572a41544", func := "ipsecgate/ipsecgatelaw37.RekeyikeMoves", spec := "rekeyikeMoves", unfollowed := true, recurses := true, apart := false, narrowed := true }
def RekeyikeMovesUptoSaid : Prop := rekeyikeMovesUptoRow.holds Tryz.pinned (OpenSpec.upto rekeyikeMovesSpec)

/-- 'ipsecgatelaw37.RekeyikeRefuses', WHERE WHAT IT READS IS OF BULK AT MOST 1048576: true; the input reads as it did. -/
def rekeyikeRefusesUptoRow : OpenClaim := { program := "ytbfppnppijcnlaagreat", sum := "4040c1fdd97f6a1031b20638988a4d32f6dec9041d899679f3f20ba572a41544", func := "ipsecgate/ipsecgatelaw37.RekeyikeRefuses", spec := "rekeyikeRefuses", unfollowed := true, recurses := true, apart := false, narrowed := true }
def RekeyikeRefusesUptoSaid : Prop := rekeyikeRefusesUptoRow.holds Tryz.pinned (OpenSpec.upto rekeyikeRefusesSpec)

/-- 'ipsecgatelaw37.RekeyikeReplaces', WHERE WHAT IT READS IS OF BULK AT MOST 1048576: true; the input reads as it did. -/
def rekeyikeReplacesUptoRow : OpenClaim := { program := "ytbfppnppijcnlaagreat", sum := "4040c1fdd97f6a1031b20638988a4d32f6dec9041d899679f3f20ba572a41544", func := "ipsecgate/ipsecgatelaw37.RekeyikeReplaces", spec := "rekeyikeReplaces", unfollowed := true, recurses := true, apart := false, narrowed := true }
def RekeyikeReplacesUptoSaid : Prop := rekeyikeReplacesUptoRow.holds Tryz.pinned (OpenSpec.upto rekeyikeReplacesSpec)

/-- 'ipsecgatelaw37.RekeyikeCollides', WHERE WHAT IT READS IS OF BULK AT MOST 1048576: true; the input reads as it did. -/
def rekeyikeCollidesUptoRow : OpenClaim := { program := "ytbfppnppijcnlaagreat", sum := "4040c1fdd97f6a1031b20638988a4d32f6dec9041d899679f3f20ba572a41544", func := "ipsecgate/ipsecgatelaw37.RekeyikeCollides", spec := "rekeyikeCollides", unfollowed := true, recurses := true, apart := false, narrowed := true }
def RekeyikeCollidesUptoSaid : Prop := rekeyikeCollidesUptoRow.holds Tryz.pinned (OpenSpec.upto rekeyikeCollidesSpec)

/-- 'ipsecgatelaw32.NatFinds', WHERE WHAT IT READS IS OF BULK AT MOST 1048576: true; the input reads as it did. -/
def natFindsUptoRow : OpenClaim := { program := "ytbfppnppijcnlaagreat", sum := "4040c1fdd97f6a1031b20638988a4d32f6dec9041d899679f3f20ba572a41544", func := "ipsecgate/ipsecgatelaw32.NatFinds", spec := "natFinds", recurses := true, apart := false, narrowed := true }
def NatFindsUptoSaid : Prop := natFindsUptoRow.holds Tryz.pinned (OpenSpec.upto natFindsSpec)

/-- 'ipsecgatelaw38.LivenessKeeps', WHERE WHAT IT READS IS OF BULK AT MOST 1048576: true; the input reads as it did. -/
def livenessKeepsUptoRow : OpenClaim := { program := "ytbfppnppijcnlaagreat", sum := "4040c1fdd97f6a1031b20638988a4d32f6dec9041d899679f3f20ba572a41544", func := "ipsecgate/ipsecgatelaw38.LivenessKeeps", spec := "livenessKeeps", unfollowed := true, recurses := true, apart := false, narrowed := true }
def LivenessKeepsUptoSaid : Prop := livenessKeepsUptoRow.holds Tryz.pinned (OpenSpec.upto livenessKeepsSpec)

end Rows
end Go.Proofs.YtbfppnppijcnlaaGreat
