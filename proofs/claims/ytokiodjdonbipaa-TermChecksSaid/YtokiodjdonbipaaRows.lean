/-
  NARROWER THAN 'FOR EVERY INPUT', by the rows' own cells (each row's printed sentence says how): TermOrders: loops · TermChecks: loops.
  DERIVED. THE GIVEN ROWS OF THIS SEAT. 6 by the template 'for every input the law returns true; each argument reads behind the call as it read before'; 0 by the template 'total and deterministic' (their statements: YtokiodjdonbipaaTotals.lean).
  GIVEN WITH THE SEED: the statements are not yours to turn. If you find one false, say at which input.
  Laid BY PROGRAM, IN A SANDBOX (cutbox-rows.mjs): the forced cells as the released guide's own fill.sh prints them over the translation d9d3c37cab1099f0… (all of the seat's roots in one cut). By AI agents, Wed Nov 11 2026. No macro, syntax, notation, axiom, sorry.
-/
import Derived.Test.YtokiodjdonbipaaChecked
import GoSem.Claim
import GoSem.ClaimJoined
import GoSem.ClaimMapViews
import Derived.JoinedTies
import Derived.KernelRfl
namespace Go.Proofs.Ytokiodjdonbipaa
/- THE CELL 'sum', in the pinned program and in every row, IS THE sha256 OF THE DUMP (.gsa) THAT YtokiodjdonbipaaProg.lean LOADS. Nothing in Lean hashes anything: it is a label: what it is worth is what the hold of that sum in a sandbox is worth. -/
noncomputable def Try.pinned : Pinned := { name := "ytokiodjdonbipaa", sum := "d9d3c37cab1099f078d2d3268f3eb1a5b80eff54d9d28584c58be2ebff1ca922", checked := Try.checked }
namespace Rows
def none {H : Type} : Left H := { results := [], args := [] }

/-- 'ipsecgatelaw26.TermOrders': WHATEVER THE INPUT: true; the input reads as it did. -/
def termOrdersSpec : ChangeSpec := { name := "termOrders", fn := fun _ => fun
  | [d1, d2, d3] => { results := [.lit (.bool true)], args := [d1, d2, d3] }
  | _ => none }
def termOrdersRow : OpenClaim := { program := "ytokiodjdonbipaa", sum := "d9d3c37cab1099f078d2d3268f3eb1a5b80eff54d9d28584c58be2ebff1ca922", func := "ipsecgate/ipsecgatelaw26.TermOrders", spec := "termOrders", recurses := true, loops := true, apart := false }
def TermOrdersSaid : Prop := termOrdersRow.holds Try.pinned (OpenSpec.ofChange termOrdersSpec)

/-- ITS FALSE NEIGHBOUR: 'it returns false'. Refute it at one input. -/
def termOrdersWrong : ChangeSpec := { name := "termOrders", fn := fun _ => fun
  | [d1, d2, d3] => { results := [.lit (.bool false)], args := [d1, d2, d3] }
  | _ => none }
def TermOrdersWrongFalsely : Prop := termOrdersRow.holds Try.pinned (OpenSpec.ofChange termOrdersWrong)

/-- 'ipsecgatelaw26.TermLower': WHATEVER THE INPUT: true; the input reads as it did. -/
def termLowerSpec : ChangeSpec := { name := "termLower", fn := fun _ => fun
  | [d1, d2, d3, d4] => { results := [.lit (.bool true)], args := [d1, d2, d3, d4] }
  | _ => none }
def termLowerRow : OpenClaim := { program := "ytokiodjdonbipaa", sum := "d9d3c37cab1099f078d2d3268f3eb1a5b80eff54d9d28584c58be2ebff1ca922", func := "ipsecgate/ipsecgatelaw26.TermLower", spec := "termLower", recurses := true, apart := false }
def TermLowerSaid : Prop := termLowerRow.holds Try.pinned (OpenSpec.ofChange termLowerSpec)

/-- ITS FALSE NEIGHBOUR: 'it returns false'. Refute it at one input. -/
def termLowerWrong : ChangeSpec := { name := "termLower", fn := fun _ => fun
  | [d1, d2, d3, d4] => { results := [.lit (.bool false)], args := [d1, d2, d3, d4] }
  | _ => none }
def TermLowerWrongFalsely : Prop := termLowerRow.holds Try.pinned (OpenSpec.ofChange termLowerWrong)

/-- 'ipsecgatelaw26.TermChecks': WHATEVER THE INPUT: true; the input reads as it did. -/
def termChecksSpec : ChangeSpec := { name := "termChecks", fn := fun _ => fun
  | [d1, d2] => { results := [.lit (.bool true)], args := [d1, d2] }
  | _ => none }
def termChecksRow : OpenClaim := { program := "ytokiodjdonbipaa", sum := "d9d3c37cab1099f078d2d3268f3eb1a5b80eff54d9d28584c58be2ebff1ca922", func := "ipsecgate/ipsecgatelaw26.TermChecks", spec := "termChecks", unfollowed := true, recurses := true, loops := true, apart := false }
def TermChecksSaid : Prop := termChecksRow.holds Try.pinned (OpenSpec.ofChange termChecksSpec)

/-- ITS FALSE NEIGHBOUR: 'it returns false'. Refute it at one input. -/
def termChecksWrong : ChangeSpec := { name := "termChecks", fn := fun _ => fun
  | [d1, d2] => { results := [.lit (.bool false)], args := [d1, d2] }
  | _ => none }
def TermChecksWrongFalsely : Prop := termChecksRow.holds Try.pinned (OpenSpec.ofChange termChecksWrong)

/-- 'ipsecgatelaw26.TermWrong': WHATEVER THE INPUT: true; the input reads as it did. -/
def termWrongSpec : ChangeSpec := { name := "termWrong", fn := fun _ => fun
  | [d1, d2] => { results := [.lit (.bool true)], args := [d1, d2] }
  | _ => none }
def termWrongRow : OpenClaim := { program := "ytokiodjdonbipaa", sum := "d9d3c37cab1099f078d2d3268f3eb1a5b80eff54d9d28584c58be2ebff1ca922", func := "ipsecgate/ipsecgatelaw26.TermWrong", spec := "termWrong", unfollowed := true, recurses := true, apart := false }
def TermWrongSaid : Prop := termWrongRow.holds Try.pinned (OpenSpec.ofChange termWrongSpec)

/-- ITS FALSE NEIGHBOUR: 'it returns false'. Refute it at one input. -/
def termWrongWrong : ChangeSpec := { name := "termWrong", fn := fun _ => fun
  | [d1, d2] => { results := [.lit (.bool false)], args := [d1, d2] }
  | _ => none }
def TermWrongWrongFalsely : Prop := termWrongRow.holds Try.pinned (OpenSpec.ofChange termWrongWrong)

/-- 'ipsecgatelaw26.TermCopies': WHATEVER THE INPUT: true; the input reads as it did. -/
def termCopiesSpec : ChangeSpec := { name := "termCopies", fn := fun _ => fun
  | [d] => { results := [.lit (.bool true)], args := [d] }
  | _ => none }
def termCopiesRow : OpenClaim := { program := "ytokiodjdonbipaa", sum := "d9d3c37cab1099f078d2d3268f3eb1a5b80eff54d9d28584c58be2ebff1ca922", func := "ipsecgate/ipsecgatelaw26.TermCopies", spec := "termCopies", unfollowed := true, recurses := true, apart := false }
def TermCopiesSaid : Prop := termCopiesRow.holds Try.pinned (OpenSpec.ofChange termCopiesSpec)

/-- ITS FALSE NEIGHBOUR: 'it returns false'. Refute it at one input. -/
def termCopiesWrong : ChangeSpec := { name := "termCopies", fn := fun _ => fun
  | [d] => { results := [.lit (.bool false)], args := [d] }
  | _ => none }
def TermCopiesWrongFalsely : Prop := termCopiesRow.holds Try.pinned (OpenSpec.ofChange termCopiesWrong)

/-- 'ipsecgatelaw26.TermAgrees': WHATEVER THE INPUT: true; the input reads as it did. -/
def termAgreesSpec : ChangeSpec := { name := "termAgrees", fn := fun _ => fun
  | [d] => { results := [.lit (.bool true)], args := [d] }
  | _ => none }
def termAgreesRow : OpenClaim := { program := "ytokiodjdonbipaa", sum := "d9d3c37cab1099f078d2d3268f3eb1a5b80eff54d9d28584c58be2ebff1ca922", func := "ipsecgate/ipsecgatelaw26.TermAgrees", spec := "termAgrees", unfollowed := true, recurses := true, apart := false }
def TermAgreesSaid : Prop := termAgreesRow.holds Try.pinned (OpenSpec.ofChange termAgreesSpec)

/-- ITS FALSE NEIGHBOUR: 'it returns false'. Refute it at one input. -/
def termAgreesWrong : ChangeSpec := { name := "termAgrees", fn := fun _ => fun
  | [d] => { results := [.lit (.bool false)], args := [d] }
  | _ => none }
def TermAgreesWrongFalsely : Prop := termAgreesRow.holds Try.pinned (OpenSpec.ofChange termAgreesWrong)

/- THE SECOND FORM. 'bulk': how many values and letters a reading holds, each counted each time it is reached (what is shared counts as often as it is met; a slice's spare places count too). A statement '..UptoSaid' is the law's where the arguments, and the package variables that the reading takes, are together of bulk at most 1048576: NARROWER than '..Said'. Prove '..Said' where nothing that the law and all that it calls make is longer than what came in: it says more and counts as full. Else prove '..UptoSaid'. A law counts once. -/
mutual
def uptoBulk {H : Type} : DataW H → Nat
  | .lit (.string bytes) => bytes.length + 1
  | .lit _ => 1
  | .nil => 1
  | .ptr d => uptoBulk d + 1
  | .slice elems spare => uptoBulkAll elems + uptoBulkAll spare + 1
  | .agg parts => uptoBulkAll parts + 1
  | .iface _ d => uptoBulk d + 1
  | .map entries => uptoBulkEntries entries + 1
  | .held _ => 1
def uptoBulkAll {H : Type} : List (DataW H) → Nat
  | [] => 0
  | d :: r => uptoBulk d + uptoBulkAll r
def uptoBulkEntries {H : Type} : List (Lit × DataW H) → Nat
  | [] => 0
  | x :: r => uptoBulkEntry x + uptoBulkEntries r
def uptoBulkEntry {H : Type} : Lit × DataW H → Nat
  | (.string bytes, d) => bytes.length + uptoBulk d + 1
  | (_, d) => uptoBulk d + 1
 end
def uptoSmall : (H : Type) → List (DataW H) → Bool := fun _ ds => decide (uptoBulkAll ds ≤ 1048576)
def OpenSpec.upto (s : _root_.Go.ChangeSpec) : _root_.Go.OpenSpec := { _root_.Go.OpenSpec.ofChange s with cond := some uptoSmall }

/-- 'ipsecgatelaw26.TermOrders', WHERE WHAT IT READS IS OF BULK AT MOST 1048576: true; the input reads as it did. -/
def termOrdersUptoRow : OpenClaim := { program := "ytokiodjdonbipaa", sum := "d9d3c37cab1099f078d2d3268f3eb1a5b80eff54d9d28584c58be2ebff1ca922", func := "ipsecgate/ipsecgatelaw26.TermOrders", spec := "termOrders", recurses := true, loops := true, apart := false, narrowed := true }
def TermOrdersUptoSaid : Prop := termOrdersUptoRow.holds Try.pinned (OpenSpec.upto termOrdersSpec)

/-- 'ipsecgatelaw26.TermLower', WHERE WHAT IT READS IS OF BULK AT MOST 1048576: true; the input reads as it did. -/
def termLowerUptoRow : OpenClaim := { program := "ytokiodjdonbipaa", sum := "d9d3c37cab1099f078d2d3268f3eb1a5b80eff54d9d28584c58be2ebff1ca922", func := "ipsecgate/ipsecgatelaw26.TermLower", spec := "termLower", recurses := true, apart := false, narrowed := true }
def TermLowerUptoSaid : Prop := termLowerUptoRow.holds Try.pinned (OpenSpec.upto termLowerSpec)

/-- 'ipsecgatelaw26.TermChecks', WHERE WHAT IT READS IS OF BULK AT MOST 1048576: true; the input reads as it did. -/
def termChecksUptoRow : OpenClaim := { program := "ytokiodjdonbipaa", sum := "d9d3c37cab1099f078d2d3268f3eb1a5b80eff54d9d28584c58be2ebff1ca922", func := "ipsecgate/ipsecgatelaw26.TermChecks", spec := "termChecks", unfollowed := true, recurses := true, loops := true, apart := false, narrowed := true }
def TermChecksUptoSaid : Prop := termChecksUptoRow.holds Try.pinned (OpenSpec.upto termChecksSpec)

/-- 'ipsecgatelaw26.TermWrong', WHERE WHAT IT READS IS OF BULK AT MOST 1048576: true; the input reads as it did. -/
def termWrongUptoRow : OpenClaim := { program := "ytokiodjdonbipaa", sum := "d9d3c37cab1099f078d2d3268f3eb1a5b80eff54d9d28584c58be2ebff1ca922", func := "ipsecgate/ipsecgatelaw26.TermWrong", spec := "termWrong", unfollowed := true, recurses := true, apart := false, narrowed := true }
def TermWrongUptoSaid : Prop := termWrongUptoRow.holds Try.pinned (OpenSpec.upto termWrongSpec)

/-- 'ipsecgatelaw26.TermCopies', WHERE WHAT IT READS IS OF BULK AT MOST 1048576: true; the input reads as it did. -/
def termCopiesUptoRow : OpenClaim := { program := "ytokiodjdonbipaa", sum := "d9d3c37cab1099f078d2d3268f3eb1a5b80eff54d9d28584c58be2ebff1ca922", func := "ipsecgate/ipsecgatelaw26.TermCopies", spec := "termCopies", unfollowed := true, recurses := true, apart := false, narrowed := true }
def TermCopiesUptoSaid : Prop := termCopiesUptoRow.holds Try.pinned (OpenSpec.upto termCopiesSpec)

/-- 'ipsecgatelaw26.TermAgrees', WHERE WHAT IT READS IS OF BULK AT MOST 1048576: true; the input reads as it did. -/
def termAgreesUptoRow : OpenClaim := { program := "ytokiodjdonbipaa", sum := "d9d3c37cab1099f078d2d3268f3eb1a5b80eff54d9d28584c58be2ebff1ca922", func := "ipsecgate/ipsecgatelaw26.TermAgrees", spec := "termAgrees", unfollowed := true, recurses := true, apart := false, narrowed := true }
def TermAgreesUptoSaid : Prop := termAgreesUptoRow.holds Try.pinned (OpenSpec.upto termAgreesSpec)

end Rows
end Go.Proofs.Ytokiodjdonbipaa
