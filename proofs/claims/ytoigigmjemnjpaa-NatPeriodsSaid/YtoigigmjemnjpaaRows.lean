/-
  No cell of these rows narrows 'for every input' (looked for: loops, veiled, ifaces, maps, wideKeys, modest, calm, conditions, laid).
  DERIVED. THE GIVEN ROWS OF THIS SEAT. 7 by the template 'for every input the law returns true; each argument reads behind the call as it read before'; 0 by the template 'total and deterministic' (their statements: YtoigigmjemnjpaaTotals.lean).
  GIVEN WITH THE SEED: the statements are not yours to turn. If you find one false, say at which input.
  Laid BY PROGRAM, IN A SANDBOX (cutbox-rows.mjs): the forced cells as the released guide's own fill.sh prints them over the translation bf8acff18aada116… (all of the seat's roots in one cut). By AI agents, Wed Nov 11 2026. No macro, syntax, notation, axiom, sorry.
-/
import Derived.Test.YtoigigmjemnjpaaChecked
import GoSem.Claim
import GoSem.ClaimJoined
import GoSem.ClaimMapViews
import Derived.JoinedTies
import Derived.KernelRfl
namespace Go.Proofs.Ytoigigmjemnjpaa
/- THE CELL 'sum', in the pinned program and in every row, IS THE sha256 OF THE DUMP (.gsa) THAT YtoigigmjemnjpaaProg.lean LOADS. Nothing in Lean hashes anything: it is a label: what it is worth is what the hold of that sum in a sandbox is worth. -/
noncomputable def Try.pinned : Pinned := { name := "ytoigigmjemnjpaa", sum := "bf8acff18aada116178f07d748db64fd7e3e90a4195dc3c3d100695867d36d9a", checked := Try.checked }
namespace Rows
def none {H : Type} : Left H := { results := [], args := [] }

/-- 'ipsecgatelaw32.NatPeriods': WHATEVER THE INPUT: true; the input reads as it did. -/
def natPeriodsSpec : ChangeSpec := { name := "natPeriods", fn := fun _ => fun
  | [d1, d2, d3] => { results := [.lit (.bool true)], args := [d1, d2, d3] }
  | _ => none }
def natPeriodsRow : OpenClaim := { program := "ytoigigmjemnjpaa", sum := "bf8acff18aada116178f07d748db64fd7e3e90a4195dc3c3d100695867d36d9a", func := "ipsecgate/ipsecgatelaw32.NatPeriods", spec := "natPeriods", recurses := true, apart := false }
def NatPeriodsSaid : Prop := natPeriodsRow.holds Try.pinned (OpenSpec.ofChange natPeriodsSpec)

/-- ITS FALSE NEIGHBOUR: 'it returns false'. Refute it at one input. -/
def natPeriodsWrong : ChangeSpec := { name := "natPeriods", fn := fun _ => fun
  | [d1, d2, d3] => { results := [.lit (.bool false)], args := [d1, d2, d3] }
  | _ => none }
def NatPeriodsWrongFalsely : Prop := natPeriodsRow.holds Try.pinned (OpenSpec.ofChange natPeriodsWrong)

/-- 'ipsecgatelaw35.RemoveChains': WHATEVER THE INPUT: true; the input reads as it did. -/
def removeChainsSpec : ChangeSpec := { name := "removeChains", fn := fun _ => fun
  | [d1, d2] => { results := [.lit (.bool true)], args := [d1, d2] }
  | _ => none }
def removeChainsRow : OpenClaim := { program := "ytoigigmjemnjpaa", sum := "bf8acff18aada116178f07d748db64fd7e3e90a4195dc3c3d100695867d36d9a", func := "ipsecgate/ipsecgatelaw35.RemoveChains", spec := "removeChains", unfollowed := true, recurses := true, apart := false }
def RemoveChainsSaid : Prop := removeChainsRow.holds Try.pinned (OpenSpec.ofChange removeChainsSpec)

/-- ITS FALSE NEIGHBOUR: 'it returns false'. Refute it at one input. -/
def removeChainsWrong : ChangeSpec := { name := "removeChains", fn := fun _ => fun
  | [d1, d2] => { results := [.lit (.bool false)], args := [d1, d2] }
  | _ => none }
def RemoveChainsWrongFalsely : Prop := removeChainsRow.holds Try.pinned (OpenSpec.ofChange removeChainsWrong)

/-- 'ipsecgatelaw35.RemoveNotes': WHATEVER THE INPUT: true; the input reads as it did. -/
def removeNotesSpec : ChangeSpec := { name := "removeNotes", fn := fun _ => fun
  | [d1, d2] => { results := [.lit (.bool true)], args := [d1, d2] }
  | _ => none }
def removeNotesRow : OpenClaim := { program := "ytoigigmjemnjpaa", sum := "bf8acff18aada116178f07d748db64fd7e3e90a4195dc3c3d100695867d36d9a", func := "ipsecgate/ipsecgatelaw35.RemoveNotes", spec := "removeNotes", unfollowed := true, recurses := true, apart := false }
def RemoveNotesSaid : Prop := removeNotesRow.holds Try.pinned (OpenSpec.ofChange removeNotesSpec)

/-- ITS FALSE NEIGHBOUR: 'it returns false'. Refute it at one input. -/
def removeNotesWrong : ChangeSpec := { name := "removeNotes", fn := fun _ => fun
  | [d1, d2] => { results := [.lit (.bool false)], args := [d1, d2] }
  | _ => none }
def RemoveNotesWrongFalsely : Prop := removeNotesRow.holds Try.pinned (OpenSpec.ofChange removeNotesWrong)

/-- 'ipsecgatelaw35.RemoveBoth': WHATEVER THE INPUT: true; the input reads as it did. -/
def removeBothSpec : ChangeSpec := { name := "removeBoth", fn := fun _ => fun
  | [d1, d2] => { results := [.lit (.bool true)], args := [d1, d2] }
  | _ => none }
def removeBothRow : OpenClaim := { program := "ytoigigmjemnjpaa", sum := "bf8acff18aada116178f07d748db64fd7e3e90a4195dc3c3d100695867d36d9a", func := "ipsecgate/ipsecgatelaw35.RemoveBoth", spec := "removeBoth", unfollowed := true, recurses := true, apart := false }
def RemoveBothSaid : Prop := removeBothRow.holds Try.pinned (OpenSpec.ofChange removeBothSpec)

/-- ITS FALSE NEIGHBOUR: 'it returns false'. Refute it at one input. -/
def removeBothWrong : ChangeSpec := { name := "removeBoth", fn := fun _ => fun
  | [d1, d2] => { results := [.lit (.bool false)], args := [d1, d2] }
  | _ => none }
def RemoveBothWrongFalsely : Prop := removeBothRow.holds Try.pinned (OpenSpec.ofChange removeBothWrong)

/-- 'ipsecgatelaw38.LivenessWaits': WHATEVER THE INPUT: true; the input reads as it did. -/
def livenessWaitsSpec : ChangeSpec := { name := "livenessWaits", fn := fun _ => fun
  | [d1, d2, d3] => { results := [.lit (.bool true)], args := [d1, d2, d3] }
  | _ => none }
def livenessWaitsRow : OpenClaim := { program := "ytoigigmjemnjpaa", sum := "bf8acff18aada116178f07d748db64fd7e3e90a4195dc3c3d100695867d36d9a", func := "ipsecgate/ipsecgatelaw38.LivenessWaits", spec := "livenessWaits", unfollowed := true, recurses := true, apart := false }
def LivenessWaitsSaid : Prop := livenessWaitsRow.holds Try.pinned (OpenSpec.ofChange livenessWaitsSpec)

/-- ITS FALSE NEIGHBOUR: 'it returns false'. Refute it at one input. -/
def livenessWaitsWrong : ChangeSpec := { name := "livenessWaits", fn := fun _ => fun
  | [d1, d2, d3] => { results := [.lit (.bool false)], args := [d1, d2, d3] }
  | _ => none }
def LivenessWaitsWrongFalsely : Prop := livenessWaitsRow.holds Try.pinned (OpenSpec.ofChange livenessWaitsWrong)

/-- 'ipsecgatelaw38.LivenessEnds': WHATEVER THE INPUT: true; the input reads as it did. -/
def livenessEndsSpec : ChangeSpec := { name := "livenessEnds", fn := fun _ => fun
  | [d] => { results := [.lit (.bool true)], args := [d] }
  | _ => none }
def livenessEndsRow : OpenClaim := { program := "ytoigigmjemnjpaa", sum := "bf8acff18aada116178f07d748db64fd7e3e90a4195dc3c3d100695867d36d9a", func := "ipsecgate/ipsecgatelaw38.LivenessEnds", spec := "livenessEnds", unfollowed := true, recurses := true, apart := false }
def LivenessEndsSaid : Prop := livenessEndsRow.holds Try.pinned (OpenSpec.ofChange livenessEndsSpec)

/-- ITS FALSE NEIGHBOUR: 'it returns false'. Refute it at one input. -/
def livenessEndsWrong : ChangeSpec := { name := "livenessEnds", fn := fun _ => fun
  | [d] => { results := [.lit (.bool false)], args := [d] }
  | _ => none }
def LivenessEndsWrongFalsely : Prop := livenessEndsRow.holds Try.pinned (OpenSpec.ofChange livenessEndsWrong)

/-- 'ipsecgatelaw39.MobikeFollows': WHATEVER THE INPUT: true; the input reads as it did. -/
def mobikeFollowsSpec : ChangeSpec := { name := "mobikeFollows", fn := fun _ => fun
  | [d1, d2] => { results := [.lit (.bool true)], args := [d1, d2] }
  | _ => none }
def mobikeFollowsRow : OpenClaim := { program := "ytoigigmjemnjpaa", sum := "bf8acff18aada116178f07d748db64fd7e3e90a4195dc3c3d100695867d36d9a", func := "ipsecgate/ipsecgatelaw39.MobikeFollows", spec := "mobikeFollows", unfollowed := true, recurses := true, apart := false }
def MobikeFollowsSaid : Prop := mobikeFollowsRow.holds Try.pinned (OpenSpec.ofChange mobikeFollowsSpec)

/-- ITS FALSE NEIGHBOUR: 'it returns false'. Refute it at one input. -/
def mobikeFollowsWrong : ChangeSpec := { name := "mobikeFollows", fn := fun _ => fun
  | [d1, d2] => { results := [.lit (.bool false)], args := [d1, d2] }
  | _ => none }
def MobikeFollowsWrongFalsely : Prop := mobikeFollowsRow.holds Try.pinned (OpenSpec.ofChange mobikeFollowsWrong)

/- THE SECOND FORM. 'bulk': how many values and letters a reading holds, each counted each time it is reached (what is shared counts as often as it is met; a slice's spare places count too). A statement '..UptoSaid' is the law's where the arguments, and the package variables that the reading takes, are together of bulk at most 1048576: NARROWER than '..Said'. Prove '..Said' where nothing that the law and all that it calls make is longer than what came in: it says more and counts as full. Else prove '..UptoSaid'. A law counts once. -/
mutual
def uptoBulk {H : Type} : DataW H → Nat
  | .lit (.string bytes) => bytes.length + 1
  | .lit _ => 1
  | .nil => 1
  | .ptr d => uptoBulk d + 1
  | .slice elems spare => uptoBulkAll elems + uptoBulkAll spare + 1
  | .agg parts => uptoBulkAll parts + 1
  | .iface _ d => uptoBulk d + 1
  | .map entries => uptoBulkEntries entries + 1
  | .held _ => 1
def uptoBulkAll {H : Type} : List (DataW H) → Nat
  | [] => 0
  | d :: r => uptoBulk d + uptoBulkAll r
def uptoBulkEntries {H : Type} : List (Lit × DataW H) → Nat
  | [] => 0
  | x :: r => uptoBulkEntry x + uptoBulkEntries r
def uptoBulkEntry {H : Type} : Lit × DataW H → Nat
  | (.string bytes, d) => bytes.length + uptoBulk d + 1
  | (_, d) => uptoBulk d + 1
 end
def uptoSmall : (H : Type) → List (DataW H) → Bool := fun _ ds => decide (uptoBulkAll ds ≤ 1048576)
def OpenSpec.upto (s : _root_.Go.ChangeSpec) : _root_.Go.OpenSpec := { _root_.Go.OpenSpec.ofChange s with cond := some uptoSmall }

/-- 'ipsecgatelaw32.NatPeriods', WHERE WHAT IT READS IS OF BULK AT MOST 1048576: true; the input reads as it did. -/
def natPeriodsUptoRow : OpenClaim := { program := "ytoigigmjemnjpaa", sum := "bf8acff18aada116178f07d748db64fd7e3e90a4195dc3c3d100695867d36d9a", func := "ipsecgate/ipsecgatelaw32.NatPeriods", spec := "natPeriods", recurses := true, apart := false, narrowed := true }
def NatPeriodsUptoSaid : Prop := natPeriodsUptoRow.holds Try.pinned (OpenSpec.upto natPeriodsSpec)

/-- 'ipsecgatelaw35.RemoveChains', WHERE WHAT IT READS IS OF BULK AT MOST 1048576: true; the input reads as it did. -/
def removeChainsUptoRow : OpenClaim := { program := "ytoigigmjemnjpaa", sum := "bf8acff18aada116178f07d748db64fd7e3e90a4195dc3c3d100695867d36d9a", func := "ipsecgate/ipsecgatelaw35.RemoveChains", spec := "removeChains", unfollowed := true, recurses := true, apart := false, narrowed := true }
def RemoveChainsUptoSaid : Prop := removeChainsUptoRow.holds Try.pinned (OpenSpec.upto removeChainsSpec)

/-- 'ipsecgatelaw35.RemoveNotes', WHERE WHAT IT READS IS OF BULK AT MOST 1048576: true; the input reads as it did. -/
def removeNotesUptoRow : OpenClaim := { program := "ytoigigmjemnjpaa", sum := "bf8acff18aada116178f07d748db64fd7e3e90a4195dc3c3d100695867d36d9a", func := "ipsecgate/ipsecgatelaw35.RemoveNotes", spec := "removeNotes", unfollowed := true, recurses := true, apart := false, narrowed := true }
def RemoveNotesUptoSaid : Prop := removeNotesUptoRow.holds Try.pinned (OpenSpec.upto removeNotesSpec)

/-- 'ipsecgatelaw35.RemoveBoth', WHERE WHAT IT READS IS OF BULK AT MOST 1048576: true; the input reads as it did. -/
def removeBothUptoRow : OpenClaim := { program := "ytoigigmjemnjpaa", sum := "bf8acff18aada116178f07d748db64fd7e3e90a4195dc3c3d100695867d36d9a", func := "ipsecgate/ipsecgatelaw35.RemoveBoth", spec := "removeBoth", unfollowed := true, recurses := true, apart := false, narrowed := true }
def RemoveBothUptoSaid : Prop := removeBothUptoRow.holds Try.pinned (OpenSpec.upto removeBothSpec)

/-- 'ipsecgatelaw38.LivenessWaits', WHERE WHAT IT READS IS OF BULK AT MOST 1048576: true; the input reads as it did. -/
def livenessWaitsUptoRow : OpenClaim := { program := "ytoigigmjemnjpaa", sum := "bf8acff18aada116178f07d748db64fd7e3e90a4195dc3c3d100695867d36d9a", func := "ipsecgate/ipsecgatelaw38.LivenessWaits", spec := "livenessWaits", unfollowed := true, recurses := true, apart := false, narrowed := true }
def LivenessWaitsUptoSaid : Prop := livenessWaitsUptoRow.holds Try.pinned (OpenSpec.upto livenessWaitsSpec)

/-- 'ipsecgatelaw38.LivenessEnds', WHERE WHAT IT READS IS OF BULK AT MOST 1048576: true; the input reads as it did. -/
def livenessEndsUptoRow : OpenClaim := { program := "ytoigigmjemnjpaa", sum := "bf8acff18aada116178f07d748db64fd7e3e90a4195dc3c3d100695867d36d9a", func := "ipsecgate/ipsecgatelaw38.LivenessEnds", spec := "livenessEnds", unfollowed := true, recurses := true, apart := false, narrowed := true }
def LivenessEndsUptoSaid : Prop := livenessEndsUptoRow.holds Try.pinned (OpenSpec.upto livenessEndsSpec)

/-- 'ipsecgatelaw39.MobikeFollows', WHERE WHAT IT READS IS OF BULK AT MOST 1048576: true; the input reads as it did. -/
def mobikeFollowsUptoRow : OpenClaim := { program := "ytoigigmjemnjpaa", sum := "bf8acff18aada116178f07d748db64fd7e3e90a4195dc3c3d100695867d36d9a", func := "ipsecgate/ipsecgatelaw39.MobikeFollows", spec := "mobikeFollows", unfollowed := true, recurses := true, apart := false, narrowed := true }
def MobikeFollowsUptoSaid : Prop := mobikeFollowsUptoRow.holds Try.pinned (OpenSpec.upto mobikeFollowsSpec)

end Rows
end Go.Proofs.Ytoigigmjemnjpaa
