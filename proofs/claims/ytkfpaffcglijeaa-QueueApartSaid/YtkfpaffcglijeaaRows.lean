/-
  No cell of these rows narrows 'for every input' (looked for: loops, veiled, ifaces, maps, wideKeys, modest, calm, conditions, laid).
  DERIVED. THE GIVEN ROWS OF THIS SEAT. 8 by the template 'for every input the law returns true; each argument reads behind the call as it read before'; 0 by the template 'total and deterministic' (their statements: YtkfpaffcglijeaaTotals.lean).
  GIVEN WITH THE SEED: the statements are not yours to turn. If you find one false, say at which input.
  Laid BY PROGRAM, IN A SANDBOX (cutbox-rows.mjs): the forced cells as the released guide's own fill.sh prints them over the translation cf6e82ba4c8e3657… (all of the seat's roots in one cut). By AI agents, Wed Nov 11 2026. No macro, syntax, notation, axiom, sorry.
-/
import Derived.Test.YtkfpaffcglijeaaChecked
import GoSem.Claim
import GoSem.ClaimJoined
import GoSem.ClaimMapViews
import Derived.JoinedTies
import Derived.KernelRfl
namespace Go.Proofs.Ytkfpaffcglijeaa
/- THE CELL 'sum', in the pinned program and in every row, IS THE sha256 OF THE DUMP (.gsa) THAT YtkfpaffcglijeaaProg.lean LOADS. Nothing in Lean hashes anything: it is a label: what it is worth is what the hold of that sum in a sandbox is worth. -/
noncomputable def Try.pinned : Pinned := { name := "ytkfpaffcglijeaa", sum := "cf6e82ba4c8e3657058491e1c1669fb741cf40127ee366efe5ef53704d0b95e0", checked := Try.checked }
namespace Rows
def none {H : Type} : Left H := { results := [], args := [] }

/-- 'furlonglaw12.AuditStates': WHATEVER THE INPUT: true; the input reads as it did. -/
def auditStatesSpec : ChangeSpec := { name := "auditStates", fn := fun _ => fun
  | [d] => { results := [.lit (.bool true)], args := [d] }
  | _ => none }
def auditStatesRow : OpenClaim := { program := "ytkfpaffcglijeaa", sum := "cf6e82ba4c8e3657058491e1c1669fb741cf40127ee366efe5ef53704d0b95e0", func := "furlong/furlonglaw12.AuditStates", spec := "auditStates", inPlace := ["math/bits.Sub64", "math/bits.Add64"], unfollowed := true, recurses := true, plainKeys := false, apart := false }
def AuditStatesSaid : Prop := auditStatesRow.holds Try.pinned (OpenSpec.ofChange auditStatesSpec)

/-- ITS FALSE NEIGHBOUR: 'it returns false'. Refute it at one input. -/
def auditStatesWrong : ChangeSpec := { name := "auditStates", fn := fun _ => fun
  | [d] => { results := [.lit (.bool false)], args := [d] }
  | _ => none }
def AuditStatesWrongFalsely : Prop := auditStatesRow.holds Try.pinned (OpenSpec.ofChange auditStatesWrong)

/-- 'furlonglaw12.AuditOrder': WHATEVER THE INPUT: true; the input reads as it did. -/
def auditOrderSpec : ChangeSpec := { name := "auditOrder", fn := fun _ => fun
  | [d] => { results := [.lit (.bool true)], args := [d] }
  | _ => none }
def auditOrderRow : OpenClaim := { program := "ytkfpaffcglijeaa", sum := "cf6e82ba4c8e3657058491e1c1669fb741cf40127ee366efe5ef53704d0b95e0", func := "furlong/furlonglaw12.AuditOrder", spec := "auditOrder", inPlace := ["math/bits.Sub64", "math/bits.Add64"], unfollowed := true, recurses := true, plainKeys := false, apart := false }
def AuditOrderSaid : Prop := auditOrderRow.holds Try.pinned (OpenSpec.ofChange auditOrderSpec)

/-- ITS FALSE NEIGHBOUR: 'it returns false'. Refute it at one input. -/
def auditOrderWrong : ChangeSpec := { name := "auditOrder", fn := fun _ => fun
  | [d] => { results := [.lit (.bool false)], args := [d] }
  | _ => none }
def AuditOrderWrongFalsely : Prop := auditOrderRow.holds Try.pinned (OpenSpec.ofChange auditOrderWrong)

/-- 'furlonglaw05.QueueApart': WHATEVER THE INPUT: true; the input reads as it did. -/
def queueApartSpec : ChangeSpec := { name := "queueApart", fn := fun _ => fun
  | [d1, d2, d3] => { results := [.lit (.bool true)], args := [d1, d2, d3] }
  | _ => none }
def queueApartRow : OpenClaim := { program := "ytkfpaffcglijeaa", sum := "cf6e82ba4c8e3657058491e1c1669fb741cf40127ee366efe5ef53704d0b95e0", func := "furlong/furlonglaw05.QueueApart", spec := "queueApart", inPlace := ["slices.overlaps[furlong/api.Queue]"], unfollowed := true, recurses := true, plainKeys := false, apart := false }
def QueueApartSaid : Prop := queueApartRow.holds Try.pinned (OpenSpec.ofChange queueApartSpec)

/-- ITS FALSE NEIGHBOUR: 'it returns false'. Refute it at one input. -/
def queueApartWrong : ChangeSpec := { name := "queueApart", fn := fun _ => fun
  | [d1, d2, d3] => { results := [.lit (.bool false)], args := [d1, d2, d3] }
  | _ => none }
def QueueApartWrongFalsely : Prop := queueApartRow.holds Try.pinned (OpenSpec.ofChange queueApartWrong)

/-- 'furlonglaw17.PostScripts': WHATEVER THE INPUT: true; the input reads as it did. -/
def postScriptsSpec : ChangeSpec := { name := "postScripts", fn := fun _ => fun
  | [d] => { results := [.lit (.bool true)], args := [d] }
  | _ => none }
def postScriptsRow : OpenClaim := { program := "ytkfpaffcglijeaa", sum := "cf6e82ba4c8e3657058491e1c1669fb741cf40127ee366efe5ef53704d0b95e0", func := "furlong/furlonglaw17.PostScripts", spec := "postScripts", unfollowed := true, recurses := true, plainKeys := false, apart := false }
def PostScriptsSaid : Prop := postScriptsRow.holds Try.pinned (OpenSpec.ofChange postScriptsSpec)

/-- ITS FALSE NEIGHBOUR: 'it returns false'. Refute it at one input. -/
def postScriptsWrong : ChangeSpec := { name := "postScripts", fn := fun _ => fun
  | [d] => { results := [.lit (.bool false)], args := [d] }
  | _ => none }
def PostScriptsWrongFalsely : Prop := postScriptsRow.holds Try.pinned (OpenSpec.ofChange postScriptsWrong)

/-- 'furlonglaw17.PostTickets': WHATEVER THE INPUT: true; the input reads as it did. -/
def postTicketsSpec : ChangeSpec := { name := "postTickets", fn := fun _ => fun
  | [d] => { results := [.lit (.bool true)], args := [d] }
  | _ => none }
def postTicketsRow : OpenClaim := { program := "ytkfpaffcglijeaa", sum := "cf6e82ba4c8e3657058491e1c1669fb741cf40127ee366efe5ef53704d0b95e0", func := "furlong/furlonglaw17.PostTickets", spec := "postTickets", unfollowed := true, recurses := true, plainKeys := false, apart := false }
def PostTicketsSaid : Prop := postTicketsRow.holds Try.pinned (OpenSpec.ofChange postTicketsSpec)

/-- ITS FALSE NEIGHBOUR: 'it returns false'. Refute it at one input. -/
def postTicketsWrong : ChangeSpec := { name := "postTickets", fn := fun _ => fun
  | [d] => { results := [.lit (.bool false)], args := [d] }
  | _ => none }
def PostTicketsWrongFalsely : Prop := postTicketsRow.holds Try.pinned (OpenSpec.ofChange postTicketsWrong)

/-- 'furlonglaw17.PostLines': WHATEVER THE INPUT: true; the input reads as it did. -/
def postLinesSpec : ChangeSpec := { name := "postLines", fn := fun _ => fun
  | [d1, d2, d3, d4] => { results := [.lit (.bool true)], args := [d1, d2, d3, d4] }
  | _ => none }
def postLinesRow : OpenClaim := { program := "ytkfpaffcglijeaa", sum := "cf6e82ba4c8e3657058491e1c1669fb741cf40127ee366efe5ef53704d0b95e0", func := "furlong/furlonglaw17.PostLines", spec := "postLines", unfollowed := true, recurses := true, plainKeys := false, apart := false }
def PostLinesSaid : Prop := postLinesRow.holds Try.pinned (OpenSpec.ofChange postLinesSpec)

/-- ITS FALSE NEIGHBOUR: 'it returns false'. Refute it at one input. -/
def postLinesWrong : ChangeSpec := { name := "postLines", fn := fun _ => fun
  | [d1, d2, d3, d4] => { results := [.lit (.bool false)], args := [d1, d2, d3, d4] }
  | _ => none }
def PostLinesWrongFalsely : Prop := postLinesRow.holds Try.pinned (OpenSpec.ofChange postLinesWrong)

/-- 'furlonglaw17.PostFull': WHATEVER THE INPUT: true; the input reads as it did. -/
def postFullSpec : ChangeSpec := { name := "postFull", fn := fun _ => fun
  | [d1, d2, d3, d4] => { results := [.lit (.bool true)], args := [d1, d2, d3, d4] }
  | _ => none }
def postFullRow : OpenClaim := { program := "ytkfpaffcglijeaa", sum := "cf6e82ba4c8e3657058491e1c1669fb741cf40127ee366efe5ef53704d0b95e0", func := "furlong/furlonglaw17.PostFull", spec := "postFull", unfollowed := true, recurses := true, plainKeys := false, apart := false }
def PostFullSaid : Prop := postFullRow.holds Try.pinned (OpenSpec.ofChange postFullSpec)

/-- ITS FALSE NEIGHBOUR: 'it returns false'. Refute it at one input. -/
def postFullWrong : ChangeSpec := { name := "postFull", fn := fun _ => fun
  | [d1, d2, d3, d4] => { results := [.lit (.bool false)], args := [d1, d2, d3, d4] }
  | _ => none }
def PostFullWrongFalsely : Prop := postFullRow.holds Try.pinned (OpenSpec.ofChange postFullWrong)

/-- 'furlonglaw17.PostNil': WHATEVER THE INPUT: true; the input reads as it did. -/
def postNilSpec : ChangeSpec := { name := "postNil", fn := fun _ => fun
  | [d1, d2, d3, d4] => { results := [.lit (.bool true)], args := [d1, d2, d3, d4] }
  | _ => none }
def postNilRow : OpenClaim := { program := "ytkfpaffcglijeaa", sum := "cf6e82ba4c8e3657058491e1c1669fb741cf40127ee366efe5ef53704d0b95e0", func := "furlong/furlonglaw17.PostNil", spec := "postNil", unfollowed := true, recurses := true, plainKeys := false, apart := false }
def PostNilSaid : Prop := postNilRow.holds Try.pinned (OpenSpec.ofChange postNilSpec)

/-- ITS FALSE NEIGHBOUR: 'it returns false'. Refute it at one input. -/
def postNilWrong : ChangeSpec := { name := "postNil", fn := fun _ => fun
  | [d1, d2, d3, d4] => { results := [.lit (.bool false)], args := [d1, d2, d3, d4] }
  | _ => none }
def PostNilWrongFalsely : Prop := postNilRow.holds Try.pinned (OpenSpec.ofChange postNilWrong)

/- THE SECOND FORM. 'bulk': how many values and letters a reading holds, each counted each time it is reached (what is shared counts as often as it is met; a slice's spare places count too). A statement '..UptoSaid' is the law's where the arguments, and the package variables that the reading takes, are together of bulk at most 1048576: NARROWER than '..Said'. Prove '..Said' where nothing that the law and all that it calls make is longer than what came in: it says more and counts as full. Else prove '..UptoSaid'. A law counts once. -/
mutual
def uptoBulk {H : Type} : DataW H → Nat
  | .lit (.string bytes) => bytes.length + 1
  | .lit _ => 1
  | .nil => 1
  | .ptr d => uptoBulk d + 1
  | .slice elems spare => uptoBulkAll elems + uptoBulkAll spare + 1
  | .agg parts => uptoBulkAll parts + 1
  | .iface _ d => uptoBulk d + 1
  | .map entries => uptoBulkEntries entries + 1
  | .held _ => 1
def uptoBulkAll {H : Type} : List (DataW H) → Nat
  | [] => 0
  | d :: r => uptoBulk d + uptoBulkAll r
def uptoBulkEntries {H : Type} : List (Lit × DataW H) → Nat
  | [] => 0
  | x :: r => uptoBulkEntry x + uptoBulkEntries r
def uptoBulkEntry {H : Type} : Lit × DataW H → Nat
  | (.string bytes, d) => bytes.length + uptoBulk d + 1
  | (_, d) => uptoBulk d + 1
 end
def uptoSmall : (H : Type) → List (DataW H) → Bool := fun _ ds => decide (uptoBulkAll ds ≤ 1048576)
def OpenSpec.upto (s : _root_.Go.ChangeSpec) : _root_.Go.OpenSpec := { _root_.Go.OpenSpec.ofChange s with cond := some uptoSmall }

/-- 'furlonglaw12.AuditStates', WHERE WHAT IT READS IS OF BULK AT MOST 1048576: true; the input reads as it did. -/
def auditStatesUptoRow : OpenClaim := { program := "ytkfpaffcglijeaa", sum := "cf6e82ba4c8e3657058491e1c1669fb741cf40127ee366efe5ef53704d0b95e0", func := "furlong/furlonglaw12.AuditStates", spec := "auditStates", inPlace := ["math/bits.Sub64", "math/bits.Add64"], unfollowed := true, recurses := true, plainKeys := false, apart := false, narrowed := true }
def AuditStatesUptoSaid : Prop := auditStatesUptoRow.holds Try.pinned (OpenSpec.upto auditStatesSpec)

/-- 'furlonglaw12.AuditOrder', WHERE WHAT IT READS IS OF BULK AT MOST 1048576: true; the input reads as it did. -/
def auditOrderUptoRow : OpenClaim := { program := "ytkfpaffcglijeaa", sum := "cf6e82ba4c8e3657058491e1c1669fb741cf40127ee366efe5ef53704d0b95e0", func := "furlong/furlonglaw12.AuditOrder", spec := "auditOrder", inPlace := ["math/bits.Sub64", "math/bits.Add64"], unfollowed := true, recurses := true, plainKeys := false, apart := false, narrowed := true }
def AuditOrderUptoSaid : Prop := auditOrderUptoRow.holds Try.pinned (OpenSpec.upto auditOrderSpec)

/-- 'furlonglaw05.QueueApart', WHERE WHAT IT READS IS OF BULK AT MOST 1048576: true; the input reads as it did. -/
def queueApartUptoRow : OpenClaim := { program := "ytkfpaffcglijeaa", sum := "cf6e82ba4c8e3657058491e1c1669fb741cf40127ee366efe5ef53704d0b95e0", func := "furlong/furlonglaw05.QueueApart", spec := "queueApart", inPlace := ["slices.overlaps[furlong/api.Queue]"], unfollowed := true, recurses := true, plainKeys := false, apart := false, narrowed := true }
def QueueApartUptoSaid : Prop := queueApartUptoRow.holds Try.pinned (OpenSpec.upto queueApartSpec)

/-- 'furlonglaw17.PostScripts', WHERE WHAT IT READS IS OF BULK AT MOST 1048576: true; the input reads as it did. -/
def postScriptsUptoRow : OpenClaim := { program := "ytkfpaffcglijeaa", sum := "cf6e82ba4c8e3657058491e1c1669fb741cf40127ee366efe5ef53704d0b95e0", func := "furlong/furlonglaw17.PostScripts", spec := "postScripts", unfollowed := true, recurses := true, plainKeys := false, apart := false, narrowed := true }
def PostScriptsUptoSaid : Prop := postScriptsUptoRow.holds Try.pinned (OpenSpec.upto postScriptsSpec)

/-- 'furlonglaw17.PostTickets', WHERE WHAT IT READS IS OF BULK AT MOST 1048576: true; the input reads as it did. -/
def postTicketsUptoRow : OpenClaim := { program := "ytkfpaffcglijeaa", sum := "cf6e82ba4c8e3657058491e1c1669fb741cf40127ee366efe5ef53704d0b95e0", func := "furlong/furlonglaw17.PostTickets", spec := "postTickets", unfollowed := true, recurses := true, plainKeys := false, apart := false, narrowed := true }
def PostTicketsUptoSaid : Prop := postTicketsUptoRow.holds Try.pinned (OpenSpec.upto postTicketsSpec)

/-- 'furlonglaw17.PostLines', WHERE WHAT IT READS IS OF BULK AT MOST 1048576: true; the input reads as it did. -/
def postLinesUptoRow : OpenClaim := { program := "ytkfpaffcglijeaa", sum := "cf6e82ba4c8e3657058491e1c1669fb741cf40127ee366efe5ef53704d0b95e0", func := "furlong/furlonglaw17.PostLines", spec := "postLines", unfollowed := true, recurses := true, plainKeys := false, apart := false, narrowed := true }
def PostLinesUptoSaid : Prop := postLinesUptoRow.holds Try.pinned (OpenSpec.upto postLinesSpec)

/-- 'furlonglaw17.PostFull', WHERE WHAT IT READS IS OF BULK AT MOST 1048576: true; the input reads as it did. -/
def postFullUptoRow : OpenClaim := { program := "ytkfpaffcglijeaa", sum := "cf6e82ba4c8e3657058491e1c1669fb741cf40127ee366efe5ef53704d0b95e0", func := "furlong/furlonglaw17.PostFull", spec := "postFull", unfollowed := true, recurses := true, plainKeys := false, apart := false, narrowed := true }
def PostFullUptoSaid : Prop := postFullUptoRow.holds Try.pinned (OpenSpec.upto postFullSpec)

/-- 'furlonglaw17.PostNil', WHERE WHAT IT READS IS OF BULK AT MOST 1048576: true; the input reads as it did. -/
def postNilUptoRow : OpenClaim := { program := "ytkfpaffcglijeaa", sum := "cf6e82ba4c8e3657058491e1c1669fb741cf40127ee366efe5ef53704d0b95e0", func := "furlong/furlonglaw17.PostNil", spec := "postNil", unfollowed := true, recurses := true, plainKeys := false, apart := false, narrowed := true }
def PostNilUptoSaid : Prop := postNilUptoRow.holds Try.pinned (OpenSpec.upto postNilSpec)

end Rows
end Go.Proofs.Ytkfpaffcglijeaa
