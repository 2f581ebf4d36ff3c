/-
  No cell of these rows narrows 'for every input' (looked for: loops, veiled, ifaces, maps, wideKeys, modest, calm, conditions, laid).
  DERIVED. THE GIVEN ROWS OF THIS SEAT. 5 by the template 'for every input the law returns true; each argument reads behind the call as it read before'; 0 by the template 'total and deterministic' (their statements: YtddiclnkfhldlaaTotals.lean).
  GIVEN WITH THE SEED: the statements are not yours to turn. If you find one false, say at which input.
  Laid BY PROGRAM, IN A SANDBOX (cutbox-rows.mjs): the forced cells as the released guide's own fill.sh prints them over the translation b666301d1ef7bcba… (all of the seat's roots in one cut). By AI agents, Wed Nov 11 2026. No macro, syntax, notation, axiom, sorry.
-/
import Derived.Test.YtddiclnkfhldlaaChecked
import GoSem.Claim
import GoSem.ClaimJoined
import GoSem.ClaimMapViews
import Derived.JoinedTies
import Derived.KernelRfl
namespace Go.Proofs.Ytddiclnkfhldlaa
/- THE CELL 'sum', in the pinned program and in every row, IS THE sha256 OF THE DUMP (.gsa) THAT YtddiclnkfhldlaaProg.lean LOADS. Nothing in Lean hashes anything: it is a label: what it is worth is what the hold of that sum in a sandbox is worth. -/
noncomputable def Try.pinned : Pinned := { name := "ytddiclnkfhldlaa", sum := "b666301d1ef7bcbaa3941b011b77f282d9a0c2191aeb2bc48004af3c475a215d", checked := Try.checked }
namespace Rows
def none {H : Type} : Left H := { results := [], args := [] }

/-- 'ipsecgatelaw30.CookieBinds': WHATEVER THE INPUT: true; the input reads as it did. -/
def cookieBindsSpec : ChangeSpec := { name := "cookieBinds", fn := fun _ => fun
  | [d1, d2, d3, d4] => { results := [.lit (.bool true)], args := [d1, d2, d3, d4] }
  | _ => none }
def cookieBindsRow : OpenClaim := { program := "ytddiclnkfhldlaa", sum := "b666301d1ef7bcbaa3941b011b77f282d9a0c2191aeb2bc48004af3c475a215d", func := "ipsecgate/ipsecgatelaw30.CookieBinds", spec := "cookieBinds", recurses := true, apart := false }
def CookieBindsSaid : Prop := cookieBindsRow.holds Try.pinned (OpenSpec.ofChange cookieBindsSpec)

/-- ITS FALSE NEIGHBOUR: 'it returns false'. Refute it at one input. -/
def cookieBindsWrong : ChangeSpec := { name := "cookieBinds", fn := fun _ => fun
  | [d1, d2, d3, d4] => { results := [.lit (.bool false)], args := [d1, d2, d3, d4] }
  | _ => none }
def CookieBindsWrongFalsely : Prop := cookieBindsRow.holds Try.pinned (OpenSpec.ofChange cookieBindsWrong)

/-- 'ipsecgatelaw30.CookieEnds': WHATEVER THE INPUT: true; the input reads as it did. -/
def cookieEndsSpec : ChangeSpec := { name := "cookieEnds", fn := fun _ => fun
  | [d] => { results := [.lit (.bool true)], args := [d] }
  | _ => none }
def cookieEndsRow : OpenClaim := { program := "ytddiclnkfhldlaa", sum := "b666301d1ef7bcbaa3941b011b77f282d9a0c2191aeb2bc48004af3c475a215d", func := "ipsecgate/ipsecgatelaw30.CookieEnds", spec := "cookieEnds", unfollowed := true, recurses := true, apart := false }
def CookieEndsSaid : Prop := cookieEndsRow.holds Try.pinned (OpenSpec.ofChange cookieEndsSpec)

/-- ITS FALSE NEIGHBOUR: 'it returns false'. Refute it at one input. -/
def cookieEndsWrong : ChangeSpec := { name := "cookieEnds", fn := fun _ => fun
  | [d] => { results := [.lit (.bool false)], args := [d] }
  | _ => none }
def CookieEndsWrongFalsely : Prop := cookieEndsRow.holds Try.pinned (OpenSpec.ofChange cookieEndsWrong)

/-- 'ipsecgatelaw30.CookieOrders': WHATEVER THE INPUT: true; the input reads as it did. -/
def cookieOrdersSpec : ChangeSpec := { name := "cookieOrders", fn := fun _ => fun
  | [d1, d2] => { results := [.lit (.bool true)], args := [d1, d2] }
  | _ => none }
def cookieOrdersRow : OpenClaim := { program := "ytddiclnkfhldlaa", sum := "b666301d1ef7bcbaa3941b011b77f282d9a0c2191aeb2bc48004af3c475a215d", func := "ipsecgate/ipsecgatelaw30.CookieOrders", spec := "cookieOrders", unfollowed := true, recurses := true, apart := false }
def CookieOrdersSaid : Prop := cookieOrdersRow.holds Try.pinned (OpenSpec.ofChange cookieOrdersSpec)

/-- ITS FALSE NEIGHBOUR: 'it returns false'. Refute it at one input. -/
def cookieOrdersWrong : ChangeSpec := { name := "cookieOrders", fn := fun _ => fun
  | [d1, d2] => { results := [.lit (.bool false)], args := [d1, d2] }
  | _ => none }
def CookieOrdersWrongFalsely : Prop := cookieOrdersRow.holds Try.pinned (OpenSpec.ofChange cookieOrdersWrong)

/-- 'ipsecgatelaw30.CookieKeeps': WHATEVER THE INPUT: true; the input reads as it did. -/
def cookieKeepsSpec : ChangeSpec := { name := "cookieKeeps", fn := fun _ => fun
  | [d1, d2, d3] => { results := [.lit (.bool true)], args := [d1, d2, d3] }
  | _ => none }
def cookieKeepsRow : OpenClaim := { program := "ytddiclnkfhldlaa", sum := "b666301d1ef7bcbaa3941b011b77f282d9a0c2191aeb2bc48004af3c475a215d", func := "ipsecgate/ipsecgatelaw30.CookieKeeps", spec := "cookieKeeps", unfollowed := true, recurses := true, apart := false }
def CookieKeepsSaid : Prop := cookieKeepsRow.holds Try.pinned (OpenSpec.ofChange cookieKeepsSpec)

/-- ITS FALSE NEIGHBOUR: 'it returns false'. Refute it at one input. -/
def cookieKeepsWrong : ChangeSpec := { name := "cookieKeeps", fn := fun _ => fun
  | [d1, d2, d3] => { results := [.lit (.bool false)], args := [d1, d2, d3] }
  | _ => none }
def CookieKeepsWrongFalsely : Prop := cookieKeepsRow.holds Try.pinned (OpenSpec.ofChange cookieKeepsWrong)

/-- 'ipsecgatelaw35.RemoveChains': WHATEVER THE INPUT: true; the input reads as it did. -/
def removeChainsSpec : ChangeSpec := { name := "removeChains", fn := fun _ => fun
  | [d1, d2] => { results := [.lit (.bool true)], args := [d1, d2] }
  | _ => none }
def removeChainsRow : OpenClaim := { program := "ytddiclnkfhldlaa", sum := "b666301d1ef7bcbaa3941b011b77f282d9a0c2191aeb2bc48004af3c475a215d", func := "ipsecgate/ipsecgatelaw35.RemoveChains", spec := "removeChains", unfollowed := true, recurses := true, apart := false }
def RemoveChainsSaid : Prop := removeChainsRow.holds Try.pinned (OpenSpec.ofChange removeChainsSpec)

/-- ITS FALSE NEIGHBOUR: 'it returns false'. Refute it at one input. -/
def removeChainsWrong : ChangeSpec := { name := "removeChains", fn := fun _ => fun
  | [d1, d2] => { results := [.lit (.bool false)], args := [d1, d2] }
  | _ => none }
def RemoveChainsWrongFalsely : Prop := removeChainsRow.holds Try.pinned (OpenSpec.ofChange removeChainsWrong)

/- THE SECOND FORM. 'bulk': how many values and letters a reading holds, each counted each time it is reached (what is shared counts as often as it is met; a slice's spare places count too). A statement '..UptoSaid' is the law's where the arguments, and the package variables that the reading takes, are together of bulk at most 1048576: NARROWER than '..Said'. Prove '..Said' where nothing that the law and all that it calls make is longer than what came in: it says more and counts as full. Else prove '..UptoSaid'. A law counts once. -/
mutual
def uptoBulk {H : Type} : DataW H → Nat
  | .lit (.string bytes) => bytes.length + 1
  | .lit _ => 1
  | .nil => 1
  | .ptr d => uptoBulk d + 1
  | .slice elems spare => uptoBulkAll elems + uptoBulkAll spare + 1
  | .agg parts => uptoBulkAll parts + 1
  | .iface _ d => uptoBulk d + 1
  | .map entries => uptoBulkEntries entries + 1
  | .held _ => 1
def uptoBulkAll {H : Type} : List (DataW H) → Nat
  | [] => 0
  | d :: r => uptoBulk d + uptoBulkAll r
def uptoBulkEntries {H : Type} : List (Lit × DataW H) → Nat
  | [] => 0
  | x :: r => uptoBulkEntry x + uptoBulkEntries r
def uptoBulkEntry {H : Type} : Lit × DataW H → Nat
  | (.string bytes, d) => bytes.length + uptoBulk d + 1
  | (_, d) => uptoBulk d + 1
 end
def uptoSmall : (H : Type) → List (DataW H) → Bool := fun _ ds => decide (uptoBulkAll ds ≤ 1048576)
def OpenSpec.upto (s : _root_.Go.ChangeSpec) : _root_.Go.OpenSpec := { _root_.Go.OpenSpec.ofChange s with cond := some uptoSmall }

/-- 'ipsecgatelaw30.CookieBinds', WHERE WHAT IT READS IS OF BULK AT MOST 1048576: true; the input reads as it did. -/
def cookieBindsUptoRow : OpenClaim := { program := "ytddiclnkfhldlaa", sum := "b666301d1ef7bcbaa3941b011b77f282d9a0c2191aeb2bc48004af3c475a215d", func := "ipsecgate/ipsecgatelaw30.CookieBinds", spec := "cookieBinds", recurses := true, apart := false, narrowed := true }
def CookieBindsUptoSaid : Prop := cookieBindsUptoRow.holds Try.pinned (OpenSpec.upto cookieBindsSpec)

/-- 'ipsecgatelaw30.CookieEnds', WHERE WHAT IT READS IS OF BULK AT MOST 1048576: true; the input reads as it did. -/
def cookieEndsUptoRow : OpenClaim := { program := "ytddiclnkfhldlaa", sum := "b666301d1ef7bcbaa3941b011b77f282d9a0c2191aeb2bc48004af3c475a215d", func := "ipsecgate/ipsecgatelaw30.CookieEnds", spec := "cookieEnds", unfollowed := true, recurses := true, apart := false, narrowed := true }
def CookieEndsUptoSaid : Prop := cookieEndsUptoRow.holds Try.pinned (OpenSpec.upto cookieEndsSpec)

/-- 'ipsecgatelaw30.CookieOrders', WHERE WHAT IT READS IS OF BULK AT MOST 1048576: true; the input reads as it did. -/
def cookieOrdersUptoRow : OpenClaim := { program := "ytddiclnkfhldlaa", sum := "b666301d1ef7bcbaa3941b011b77f282d9a0c2191aeb2bc48004af3c475a215d", func := "ipsecgate/ipsecgatelaw30.CookieOrders", spec := "cookieOrders", unfollowed := true, recurses := true, apart := false, narrowed := true }
def CookieOrdersUptoSaid : Prop := cookieOrdersUptoRow.holds Try.pinned (OpenSpec.upto cookieOrdersSpec)

/-- 'ipsecgatelaw30.CookieKeeps', WHERE WHAT IT READS IS OF BULK AT MOST 1048576: true; the input reads as it did. -/
def cookieKeepsUptoRow : OpenClaim := { program := "ytddiclnkfhldlaa", sum := "b666301d1ef7bcbaa3941b011b77f282d9a0c2191aeb2bc48004af3c475a215d", func := "ipsecgate/ipsecgatelaw30.CookieKeeps", spec := "cookieKeeps", unfollowed := true, recurses := true, apart := false, narrowed := true }
def CookieKeepsUptoSaid : Prop := cookieKeepsUptoRow.holds Try.pinned (OpenSpec.upto cookieKeepsSpec)

/-- 'ipsecgatelaw35.RemoveChains', WHERE WHAT IT READS IS OF BULK AT MOST 1048576: true; the input reads as it did. -/
def removeChainsUptoRow : OpenClaim := { program := "ytddiclnkfhldlaa", sum := "b666301d1ef7bcbaa3941b011b77f282d9a0c2191aeb2bc48004af3c475a215d", func := "ipsecgate/ipsecgatelaw35.RemoveChains", spec := "removeChains", unfollowed := true, recurses := true, apart := false, narrowed := true }
def RemoveChainsUptoSaid : Prop := removeChainsUptoRow.holds Try.pinned (OpenSpec.upto removeChainsSpec)

end Rows
end Go.Proofs.Ytddiclnkfhldlaa
