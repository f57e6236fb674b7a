/-
  No cell of these rows narrows 'for every input' (looked for: loops, veiled, ifaces, maps, wideKeys, modest, calm, conditions, laid).
  DERIVED. THE GIVEN ROWS OF THIS SEAT. 22 by the template 'for every input the law returns true; each argument reads behind the call as it read before'; 0 by the template 'total and deterministic' (their statements: YtdhifabhjlbjiaaTotals.lean).
  GIVEN WITH THE SEED: the statements are not yours to turn. If you find one false, say at which input.
  Laid BY PROGRAM, IN A SANDBOX (cutbox-rows.mjs): the forced cells as the released guide's own fill.sh prints them over the translation 9040c44c2ab4a5cd… (all of the seat's roots in one cut). By AI agents, Wed Nov 11 2026. No macro, syntax, notation, axiom, sorry.
-/
import Derived.Test.YtdhifabhjlbjiaaChecked
import GoSem.Claim
import GoSem.ClaimJoined
import GoSem.ClaimMapViews
import Derived.JoinedTies
import Derived.KernelRfl
namespace Go.Proofs.Ytdhifabhjlbjiaa
/- THE CELL 'sum', in the pinned program and in every row, IS THE sha256 OF THE DUMP (.gsa) THAT YtdhifabhjlbjiaaProg.lean LOADS. Nothing in Lean hashes anything: it is a label: what it is worth is what the hold of that sum in a sandbox is worth. -/
noncomputable def Try.pinned : Pinned := { name := "ytdhifabhjlbjiaa", sum := "9040c44c2ab4a5cd2c8b27ca6b8c6bd882899ecd84c9431cbe76f818e3d1a6d9", checked := Try.checked }
namespace Rows
def none {H : Type} : Left H := { results := [], args := [] }

/-- 'furlonglaw12.AuditStates': WHATEVER THE INPUT: true; the input reads as it did. -/
def auditStatesSpec : ChangeSpec := { name := "auditStates", fn := fun _ => fun
  | [d] => { results := [.lit (.bool true)], args := [d] }
  | _ => none }
def auditStatesRow : OpenClaim := { program := "ytdhifabhjlbjiaa", sum := "9040c44c2ab4a5cd2c8b27ca6b8c6bd882899ecd84c9431cbe76f818e3d1a6d9", func := "furlong/furlonglaw12.AuditStates", spec := "auditStates", inPlace := ["math/bits.Sub64", "math/bits.Add64"], unfollowed := true, recurses := true, apart := false }
def AuditStatesSaid : Prop := auditStatesRow.holds Try.pinned (OpenSpec.ofChange auditStatesSpec)

/-- ITS FALSE NEIGHBOUR: 'it returns false'. Refute it at one input. -/
def auditStatesWrong : ChangeSpec := { name := "auditStates", fn := fun _ => fun
  | [d] => { results := [.lit (.bool false)], args := [d] }
  | _ => none }
def AuditStatesWrongFalsely : Prop := auditStatesRow.holds Try.pinned (OpenSpec.ofChange auditStatesWrong)

/-- 'furlonglaw12.AuditOrder': WHATEVER THE INPUT: true; the input reads as it did. -/
def auditOrderSpec : ChangeSpec := { name := "auditOrder", fn := fun _ => fun
  | [d] => { results := [.lit (.bool true)], args := [d] }
  | _ => none }
def auditOrderRow : OpenClaim := { program := "ytdhifabhjlbjiaa", sum := "9040c44c2ab4a5cd2c8b27ca6b8c6bd882899ecd84c9431cbe76f818e3d1a6d9", func := "furlong/furlonglaw12.AuditOrder", spec := "auditOrder", inPlace := ["math/bits.Sub64", "math/bits.Add64"], unfollowed := true, recurses := true, apart := false }
def AuditOrderSaid : Prop := auditOrderRow.holds Try.pinned (OpenSpec.ofChange auditOrderSpec)

/-- ITS FALSE NEIGHBOUR: 'it returns false'. Refute it at one input. -/
def auditOrderWrong : ChangeSpec := { name := "auditOrder", fn := fun _ => fun
  | [d] => { results := [.lit (.bool false)], args := [d] }
  | _ => none }
def AuditOrderWrongFalsely : Prop := auditOrderRow.holds Try.pinned (OpenSpec.ofChange auditOrderWrong)

/-- 'furlonglaw05.QueueApart': WHATEVER THE INPUT: true; the input reads as it did. -/
def queueApartSpec : ChangeSpec := { name := "queueApart", fn := fun _ => fun
  | [d1, d2, d3] => { results := [.lit (.bool true)], args := [d1, d2, d3] }
  | _ => none }
def queueApartRow : OpenClaim := { program := "ytdhifabhjlbjiaa", sum := "9040c44c2ab4a5cd2c8b27ca6b8c6bd882899ecd84c9431cbe76f818e3d1a6d9", func := "furlong/furlonglaw05.QueueApart", spec := "queueApart", inPlace := ["slices.overlaps[furlong/api.Queue]"], unfollowed := true, recurses := true, apart := false }
def QueueApartSaid : Prop := queueApartRow.holds Try.pinned (OpenSpec.ofChange queueApartSpec)

/-- ITS FALSE NEIGHBOUR: 'it returns false'. Refute it at one input. -/
def queueApartWrong : ChangeSpec := { name := "queueApart", fn := fun _ => fun
  | [d1, d2, d3] => { results := [.lit (.bool false)], args := [d1, d2, d3] }
  | _ => none }
def QueueApartWrongFalsely : Prop := queueApartRow.holds Try.pinned (OpenSpec.ofChange queueApartWrong)

/-- 'furlonglaw05.QueueEdits': WHATEVER THE INPUT: true; the input reads as it did. -/
def queueEditsSpec : ChangeSpec := { name := "queueEdits", fn := fun _ => fun
  | [d1, d2, d3] => { results := [.lit (.bool true)], args := [d1, d2, d3] }
  | _ => none }
def queueEditsRow : OpenClaim := { program := "ytdhifabhjlbjiaa", sum := "9040c44c2ab4a5cd2c8b27ca6b8c6bd882899ecd84c9431cbe76f818e3d1a6d9", func := "furlong/furlonglaw05.QueueEdits", spec := "queueEdits", inPlace := ["slices.overlaps[furlong/api.Queue]"], unfollowed := true, recurses := true, apart := false }
def QueueEditsSaid : Prop := queueEditsRow.holds Try.pinned (OpenSpec.ofChange queueEditsSpec)

/-- ITS FALSE NEIGHBOUR: 'it returns false'. Refute it at one input. -/
def queueEditsWrong : ChangeSpec := { name := "queueEdits", fn := fun _ => fun
  | [d1, d2, d3] => { results := [.lit (.bool false)], args := [d1, d2, d3] }
  | _ => none }
def QueueEditsWrongFalsely : Prop := queueEditsRow.holds Try.pinned (OpenSpec.ofChange queueEditsWrong)

/-- 'furlonglaw05.QueueBack': WHATEVER THE INPUT: true; the input reads as it did. -/
def queueBackSpec : ChangeSpec := { name := "queueBack", fn := fun _ => fun
  | [d1, d2] => { results := [.lit (.bool true)], args := [d1, d2] }
  | _ => none }
def queueBackRow : OpenClaim := { program := "ytdhifabhjlbjiaa", sum := "9040c44c2ab4a5cd2c8b27ca6b8c6bd882899ecd84c9431cbe76f818e3d1a6d9", func := "furlong/furlonglaw05.QueueBack", spec := "queueBack", inPlace := ["slices.overlaps[furlong/api.Queue]"], unfollowed := true, recurses := true, apart := false }
def QueueBackSaid : Prop := queueBackRow.holds Try.pinned (OpenSpec.ofChange queueBackSpec)

/-- ITS FALSE NEIGHBOUR: 'it returns false'. Refute it at one input. -/
def queueBackWrong : ChangeSpec := { name := "queueBack", fn := fun _ => fun
  | [d1, d2] => { results := [.lit (.bool false)], args := [d1, d2] }
  | _ => none }
def QueueBackWrongFalsely : Prop := queueBackRow.holds Try.pinned (OpenSpec.ofChange queueBackWrong)

/-- 'furlonglaw05.QueueAsks': WHATEVER THE INPUT: true; the input reads as it did. -/
def queueAsksSpec : ChangeSpec := { name := "queueAsks", fn := fun _ => fun
  | [d1, d2] => { results := [.lit (.bool true)], args := [d1, d2] }
  | _ => none }
def queueAsksRow : OpenClaim := { program := "ytdhifabhjlbjiaa", sum := "9040c44c2ab4a5cd2c8b27ca6b8c6bd882899ecd84c9431cbe76f818e3d1a6d9", func := "furlong/furlonglaw05.QueueAsks", spec := "queueAsks", inPlace := ["slices.overlaps[furlong/api.Queue]"], unfollowed := true, recurses := true, apart := false }
def QueueAsksSaid : Prop := queueAsksRow.holds Try.pinned (OpenSpec.ofChange queueAsksSpec)

/-- ITS FALSE NEIGHBOUR: 'it returns false'. Refute it at one input. -/
def queueAsksWrong : ChangeSpec := { name := "queueAsks", fn := fun _ => fun
  | [d1, d2] => { results := [.lit (.bool false)], args := [d1, d2] }
  | _ => none }
def QueueAsksWrongFalsely : Prop := queueAsksRow.holds Try.pinned (OpenSpec.ofChange queueAsksWrong)

/-- 'furlonglaw05.QueueTrees': WHATEVER THE INPUT: true; the input reads as it did. -/
def queueTreesSpec : ChangeSpec := { name := "queueTrees", fn := fun _ => fun
  | [d1, d2] => { results := [.lit (.bool true)], args := [d1, d2] }
  | _ => none }
def queueTreesRow : OpenClaim := { program := "ytdhifabhjlbjiaa", sum := "9040c44c2ab4a5cd2c8b27ca6b8c6bd882899ecd84c9431cbe76f818e3d1a6d9", func := "furlong/furlonglaw05.QueueTrees", spec := "queueTrees", inPlace := ["slices.overlaps[furlong/api.Queue]"], unfollowed := true, recurses := true, apart := false }
def QueueTreesSaid : Prop := queueTreesRow.holds Try.pinned (OpenSpec.ofChange queueTreesSpec)

/-- ITS FALSE NEIGHBOUR: 'it returns false'. Refute it at one input. -/
def queueTreesWrong : ChangeSpec := { name := "queueTrees", fn := fun _ => fun
  | [d1, d2] => { results := [.lit (.bool false)], args := [d1, d2] }
  | _ => none }
def QueueTreesWrongFalsely : Prop := queueTreesRow.holds Try.pinned (OpenSpec.ofChange queueTreesWrong)

/-- 'furlonglaw06.DrfChooses': WHATEVER THE INPUT: true; the input reads as it did. -/
def drfChoosesSpec : ChangeSpec := { name := "drfChooses", fn := fun _ => fun
  | [d1, d2, d3, d4] => { results := [.lit (.bool true)], args := [d1, d2, d3, d4] }
  | _ => none }
def drfChoosesRow : OpenClaim := { program := "ytdhifabhjlbjiaa", sum := "9040c44c2ab4a5cd2c8b27ca6b8c6bd882899ecd84c9431cbe76f818e3d1a6d9", func := "furlong/furlonglaw06.DrfChooses", spec := "drfChooses", unfollowed := true, recurses := true, apart := false }
def DrfChoosesSaid : Prop := drfChoosesRow.holds Try.pinned (OpenSpec.ofChange drfChoosesSpec)

/-- ITS FALSE NEIGHBOUR: 'it returns false'. Refute it at one input. -/
def drfChoosesWrong : ChangeSpec := { name := "drfChooses", fn := fun _ => fun
  | [d1, d2, d3, d4] => { results := [.lit (.bool false)], args := [d1, d2, d3, d4] }
  | _ => none }
def DrfChoosesWrongFalsely : Prop := drfChoosesRow.holds Try.pinned (OpenSpec.ofChange drfChoosesWrong)

/-- 'furlonglaw06.DrfOrders': WHATEVER THE INPUT: true; the input reads as it did. -/
def drfOrdersSpec : ChangeSpec := { name := "drfOrders", fn := fun _ => fun
  | [d1, d2, d3, d4] => { results := [.lit (.bool true)], args := [d1, d2, d3, d4] }
  | _ => none }
def drfOrdersRow : OpenClaim := { program := "ytdhifabhjlbjiaa", sum := "9040c44c2ab4a5cd2c8b27ca6b8c6bd882899ecd84c9431cbe76f818e3d1a6d9", func := "furlong/furlonglaw06.DrfOrders", spec := "drfOrders", unfollowed := true, recurses := true, apart := false }
def DrfOrdersSaid : Prop := drfOrdersRow.holds Try.pinned (OpenSpec.ofChange drfOrdersSpec)

/-- ITS FALSE NEIGHBOUR: 'it returns false'. Refute it at one input. -/
def drfOrdersWrong : ChangeSpec := { name := "drfOrders", fn := fun _ => fun
  | [d1, d2, d3, d4] => { results := [.lit (.bool false)], args := [d1, d2, d3, d4] }
  | _ => none }
def DrfOrdersWrongFalsely : Prop := drfOrdersRow.holds Try.pinned (OpenSpec.ofChange drfOrdersWrong)

/-- 'furlonglaw06.DrfTurns': WHATEVER THE INPUT: true; the input reads as it did. -/
def drfTurnsSpec : ChangeSpec := { name := "drfTurns", fn := fun _ => fun
  | [d1, d2, d3, d4] => { results := [.lit (.bool true)], args := [d1, d2, d3, d4] }
  | _ => none }
def drfTurnsRow : OpenClaim := { program := "ytdhifabhjlbjiaa", sum := "9040c44c2ab4a5cd2c8b27ca6b8c6bd882899ecd84c9431cbe76f818e3d1a6d9", func := "furlong/furlonglaw06.DrfTurns", spec := "drfTurns", unfollowed := true, recurses := true, apart := false }
def DrfTurnsSaid : Prop := drfTurnsRow.holds Try.pinned (OpenSpec.ofChange drfTurnsSpec)

/-- ITS FALSE NEIGHBOUR: 'it returns false'. Refute it at one input. -/
def drfTurnsWrong : ChangeSpec := { name := "drfTurns", fn := fun _ => fun
  | [d1, d2, d3, d4] => { results := [.lit (.bool false)], args := [d1, d2, d3, d4] }
  | _ => none }
def DrfTurnsWrongFalsely : Prop := drfTurnsRow.holds Try.pinned (OpenSpec.ofChange drfTurnsWrong)

/-- 'furlonglaw05.QueueTotals': WHATEVER THE INPUT: true; the input reads as it did. -/
def queueTotalsSpec : ChangeSpec := { name := "queueTotals", fn := fun _ => fun
  | [d1, d2] => { results := [.lit (.bool true)], args := [d1, d2] }
  | _ => none }
def queueTotalsRow : OpenClaim := { program := "ytdhifabhjlbjiaa", sum := "9040c44c2ab4a5cd2c8b27ca6b8c6bd882899ecd84c9431cbe76f818e3d1a6d9", func := "furlong/furlonglaw05.QueueTotals", spec := "queueTotals", inPlace := ["slices.overlaps[furlong/api.Queue]"], unfollowed := true, recurses := true, apart := false }
def QueueTotalsSaid : Prop := queueTotalsRow.holds Try.pinned (OpenSpec.ofChange queueTotalsSpec)

/-- ITS FALSE NEIGHBOUR: 'it returns false'. Refute it at one input. -/
def queueTotalsWrong : ChangeSpec := { name := "queueTotals", fn := fun _ => fun
  | [d1, d2] => { results := [.lit (.bool false)], args := [d1, d2] }
  | _ => none }
def QueueTotalsWrongFalsely : Prop := queueTotalsRow.holds Try.pinned (OpenSpec.ofChange queueTotalsWrong)

/-- 'furlonglaw06.DrfGrows': WHATEVER THE INPUT: true; the input reads as it did. -/
def drfGrowsSpec : ChangeSpec := { name := "drfGrows", fn := fun _ => fun
  | [d1, d2, d3, d4, d5, d6] => { results := [.lit (.bool true)], args := [d1, d2, d3, d4, d5, d6] }
  | _ => none }
def drfGrowsRow : OpenClaim := { program := "ytdhifabhjlbjiaa", sum := "9040c44c2ab4a5cd2c8b27ca6b8c6bd882899ecd84c9431cbe76f818e3d1a6d9", func := "furlong/furlonglaw06.DrfGrows", spec := "drfGrows", unfollowed := true, recurses := true, apart := false }
def DrfGrowsSaid : Prop := drfGrowsRow.holds Try.pinned (OpenSpec.ofChange drfGrowsSpec)

/-- ITS FALSE NEIGHBOUR: 'it returns false'. Refute it at one input. -/
def drfGrowsWrong : ChangeSpec := { name := "drfGrows", fn := fun _ => fun
  | [d1, d2, d3, d4, d5, d6] => { results := [.lit (.bool false)], args := [d1, d2, d3, d4, d5, d6] }
  | _ => none }
def DrfGrowsWrongFalsely : Prop := drfGrowsRow.holds Try.pinned (OpenSpec.ofChange drfGrowsWrong)

/-- 'furlonglaw05.QueueSums': WHATEVER THE INPUT: true; the input reads as it did. -/
def queueSumsSpec : ChangeSpec := { name := "queueSums", fn := fun _ => fun
  | [d1, d2, d3, d4] => { results := [.lit (.bool true)], args := [d1, d2, d3, d4] }
  | _ => none }
def queueSumsRow : OpenClaim := { program := "ytdhifabhjlbjiaa", sum := "9040c44c2ab4a5cd2c8b27ca6b8c6bd882899ecd84c9431cbe76f818e3d1a6d9", func := "furlong/furlonglaw05.QueueSums", spec := "queueSums", inPlace := ["slices.overlaps[furlong/api.Queue]"], unfollowed := true, recurses := true, apart := false }
def QueueSumsSaid : Prop := queueSumsRow.holds Try.pinned (OpenSpec.ofChange queueSumsSpec)

/-- ITS FALSE NEIGHBOUR: 'it returns false'. Refute it at one input. -/
def queueSumsWrong : ChangeSpec := { name := "queueSums", fn := fun _ => fun
  | [d1, d2, d3, d4] => { results := [.lit (.bool false)], args := [d1, d2, d3, d4] }
  | _ => none }
def QueueSumsWrongFalsely : Prop := queueSumsRow.holds Try.pinned (OpenSpec.ofChange queueSumsWrong)

/-- 'furlonglaw06.DrfOne': WHATEVER THE INPUT: true; the input reads as it did. -/
def drfOneSpec : ChangeSpec := { name := "drfOne", fn := fun _ => fun
  | [d1, d2, d3, d4] => { results := [.lit (.bool true)], args := [d1, d2, d3, d4] }
  | _ => none }
def drfOneRow : OpenClaim := { program := "ytdhifabhjlbjiaa", sum := "9040c44c2ab4a5cd2c8b27ca6b8c6bd882899ecd84c9431cbe76f818e3d1a6d9", func := "furlong/furlonglaw06.DrfOne", spec := "drfOne", unfollowed := true, recurses := true, apart := false }
def DrfOneSaid : Prop := drfOneRow.holds Try.pinned (OpenSpec.ofChange drfOneSpec)

/-- ITS FALSE NEIGHBOUR: 'it returns false'. Refute it at one input. -/
def drfOneWrong : ChangeSpec := { name := "drfOne", fn := fun _ => fun
  | [d1, d2, d3, d4] => { results := [.lit (.bool false)], args := [d1, d2, d3, d4] }
  | _ => none }
def DrfOneWrongFalsely : Prop := drfOneRow.holds Try.pinned (OpenSpec.ofChange drfOneWrong)

/-- 'furlonglaw05.QueueRooms': WHATEVER THE INPUT: true; the input reads as it did. -/
def queueRoomsSpec : ChangeSpec := { name := "queueRooms", fn := fun _ => fun
  | [d1, d2, d3, d4] => { results := [.lit (.bool true)], args := [d1, d2, d3, d4] }
  | _ => none }
def queueRoomsRow : OpenClaim := { program := "ytdhifabhjlbjiaa", sum := "9040c44c2ab4a5cd2c8b27ca6b8c6bd882899ecd84c9431cbe76f818e3d1a6d9", func := "furlong/furlonglaw05.QueueRooms", spec := "queueRooms", inPlace := ["slices.overlaps[furlong/api.Queue]"], unfollowed := true, recurses := true, apart := false }
def QueueRoomsSaid : Prop := queueRoomsRow.holds Try.pinned (OpenSpec.ofChange queueRoomsSpec)

/-- ITS FALSE NEIGHBOUR: 'it returns false'. Refute it at one input. -/
def queueRoomsWrong : ChangeSpec := { name := "queueRooms", fn := fun _ => fun
  | [d1, d2, d3, d4] => { results := [.lit (.bool false)], args := [d1, d2, d3, d4] }
  | _ => none }
def QueueRoomsWrongFalsely : Prop := queueRoomsRow.holds Try.pinned (OpenSpec.ofChange queueRoomsWrong)

/-- 'furlonglaw06.DrfLeast': WHATEVER THE INPUT: true; the input reads as it did. -/
def drfLeastSpec : ChangeSpec := { name := "drfLeast", fn := fun _ => fun
  | [d1, d2, d3, d4] => { results := [.lit (.bool true)], args := [d1, d2, d3, d4] }
  | _ => none }
def drfLeastRow : OpenClaim := { program := "ytdhifabhjlbjiaa", sum := "9040c44c2ab4a5cd2c8b27ca6b8c6bd882899ecd84c9431cbe76f818e3d1a6d9", func := "furlong/furlonglaw06.DrfLeast", spec := "drfLeast", unfollowed := true, recurses := true, apart := false }
def DrfLeastSaid : Prop := drfLeastRow.holds Try.pinned (OpenSpec.ofChange drfLeastSpec)

/-- ITS FALSE NEIGHBOUR: 'it returns false'. Refute it at one input. -/
def drfLeastWrong : ChangeSpec := { name := "drfLeast", fn := fun _ => fun
  | [d1, d2, d3, d4] => { results := [.lit (.bool false)], args := [d1, d2, d3, d4] }
  | _ => none }
def DrfLeastWrongFalsely : Prop := drfLeastRow.holds Try.pinned (OpenSpec.ofChange drfLeastWrong)

/-- 'furlonglaw08.VictimUses': WHATEVER THE INPUT: true; the input reads as it did. -/
def victimUsesSpec : ChangeSpec := { name := "victimUses", fn := fun _ => fun
  | [d] => { results := [.lit (.bool true)], args := [d] }
  | _ => none }
def victimUsesRow : OpenClaim := { program := "ytdhifabhjlbjiaa", sum := "9040c44c2ab4a5cd2c8b27ca6b8c6bd882899ecd84c9431cbe76f818e3d1a6d9", func := "furlong/furlonglaw08.VictimUses", spec := "victimUses", unfollowed := true, recurses := true, apart := false }
def VictimUsesSaid : Prop := victimUsesRow.holds Try.pinned (OpenSpec.ofChange victimUsesSpec)

/-- ITS FALSE NEIGHBOUR: 'it returns false'. Refute it at one input. -/
def victimUsesWrong : ChangeSpec := { name := "victimUses", fn := fun _ => fun
  | [d] => { results := [.lit (.bool false)], args := [d] }
  | _ => none }
def VictimUsesWrongFalsely : Prop := victimUsesRow.holds Try.pinned (OpenSpec.ofChange victimUsesWrong)

/-- 'furlonglaw08.VictimChooses': WHATEVER THE INPUT: true; the input reads as it did. -/
def victimChoosesSpec : ChangeSpec := { name := "victimChooses", fn := fun _ => fun
  | [d1, d2, d3] => { results := [.lit (.bool true)], args := [d1, d2, d3] }
  | _ => none }
def victimChoosesRow : OpenClaim := { program := "ytdhifabhjlbjiaa", sum := "9040c44c2ab4a5cd2c8b27ca6b8c6bd882899ecd84c9431cbe76f818e3d1a6d9", func := "furlong/furlonglaw08.VictimChooses", spec := "victimChooses", unfollowed := true, recurses := true, apart := false }
def VictimChoosesSaid : Prop := victimChoosesRow.holds Try.pinned (OpenSpec.ofChange victimChoosesSpec)

/-- ITS FALSE NEIGHBOUR: 'it returns false'. Refute it at one input. -/
def victimChoosesWrong : ChangeSpec := { name := "victimChooses", fn := fun _ => fun
  | [d1, d2, d3] => { results := [.lit (.bool false)], args := [d1, d2, d3] }
  | _ => none }
def VictimChoosesWrongFalsely : Prop := victimChoosesRow.holds Try.pinned (OpenSpec.ofChange victimChoosesWrong)

/-- 'furlonglaw08.VictimSpares': WHATEVER THE INPUT: true; the input reads as it did. -/
def victimSparesSpec : ChangeSpec := { name := "victimSpares", fn := fun _ => fun
  | [d1, d2, d3] => { results := [.lit (.bool true)], args := [d1, d2, d3] }
  | _ => none }
def victimSparesRow : OpenClaim := { program := "ytdhifabhjlbjiaa", sum := "9040c44c2ab4a5cd2c8b27ca6b8c6bd882899ecd84c9431cbe76f818e3d1a6d9", func := "furlong/furlonglaw08.VictimSpares", spec := "victimSpares", unfollowed := true, recurses := true, apart := false }
def VictimSparesSaid : Prop := victimSparesRow.holds Try.pinned (OpenSpec.ofChange victimSparesSpec)

/-- ITS FALSE NEIGHBOUR: 'it returns false'. Refute it at one input. -/
def victimSparesWrong : ChangeSpec := { name := "victimSpares", fn := fun _ => fun
  | [d1, d2, d3] => { results := [.lit (.bool false)], args := [d1, d2, d3] }
  | _ => none }
def VictimSparesWrongFalsely : Prop := victimSparesRow.holds Try.pinned (OpenSpec.ofChange victimSparesWrong)

/-- 'furlonglaw08.VictimStops': WHATEVER THE INPUT: true; the input reads as it did. -/
def victimStopsSpec : ChangeSpec := { name := "victimStops", fn := fun _ => fun
  | [d1, d2, d3] => { results := [.lit (.bool true)], args := [d1, d2, d3] }
  | _ => none }
def victimStopsRow : OpenClaim := { program := "ytdhifabhjlbjiaa", sum := "9040c44c2ab4a5cd2c8b27ca6b8c6bd882899ecd84c9431cbe76f818e3d1a6d9", func := "furlong/furlonglaw08.VictimStops", spec := "victimStops", unfollowed := true, recurses := true, apart := false }
def VictimStopsSaid : Prop := victimStopsRow.holds Try.pinned (OpenSpec.ofChange victimStopsSpec)

/-- ITS FALSE NEIGHBOUR: 'it returns false'. Refute it at one input. -/
def victimStopsWrong : ChangeSpec := { name := "victimStops", fn := fun _ => fun
  | [d1, d2, d3] => { results := [.lit (.bool false)], args := [d1, d2, d3] }
  | _ => none }
def VictimStopsWrongFalsely : Prop := victimStopsRow.holds Try.pinned (OpenSpec.ofChange victimStopsWrong)

/-- 'furlonglaw08.VictimStarves': WHATEVER THE INPUT: true; the input reads as it did. -/
def victimStarvesSpec : ChangeSpec := { name := "victimStarves", fn := fun _ => fun
  | [d1, d2, d3] => { results := [.lit (.bool true)], args := [d1, d2, d3] }
  | _ => none }
def victimStarvesRow : OpenClaim := { program := "ytdhifabhjlbjiaa", sum := "9040c44c2ab4a5cd2c8b27ca6b8c6bd882899ecd84c9431cbe76f818e3d1a6d9", func := "furlong/furlonglaw08.VictimStarves", spec := "victimStarves", unfollowed := true, recurses := true, apart := false }
def VictimStarvesSaid : Prop := victimStarvesRow.holds Try.pinned (OpenSpec.ofChange victimStarvesSpec)

/-- ITS FALSE NEIGHBOUR: 'it returns false'. Refute it at one input. -/
def victimStarvesWrong : ChangeSpec := { name := "victimStarves", fn := fun _ => fun
  | [d1, d2, d3] => { results := [.lit (.bool false)], args := [d1, d2, d3] }
  | _ => none }
def VictimStarvesWrongFalsely : Prop := victimStarvesRow.holds Try.pinned (OpenSpec.ofChange victimStarvesWrong)

/-- 'furlonglaw08.VictimGuards': WHATEVER THE INPUT: true; the input reads as it did. -/
def victimGuardsSpec : ChangeSpec := { name := "victimGuards", fn := fun _ => fun
  | [d1, d2, d3] => { results := [.lit (.bool true)], args := [d1, d2, d3] }
  | _ => none }
def victimGuardsRow : OpenClaim := { program := "ytdhifabhjlbjiaa", sum := "9040c44c2ab4a5cd2c8b27ca6b8c6bd882899ecd84c9431cbe76f818e3d1a6d9", func := "furlong/furlonglaw08.VictimGuards", spec := "victimGuards", unfollowed := true, recurses := true, apart := false }
def VictimGuardsSaid : Prop := victimGuardsRow.holds Try.pinned (OpenSpec.ofChange victimGuardsSpec)

/-- ITS FALSE NEIGHBOUR: 'it returns false'. Refute it at one input. -/
def victimGuardsWrong : ChangeSpec := { name := "victimGuards", fn := fun _ => fun
  | [d1, d2, d3] => { results := [.lit (.bool false)], args := [d1, d2, d3] }
  | _ => none }
def VictimGuardsWrongFalsely : Prop := victimGuardsRow.holds Try.pinned (OpenSpec.ofChange victimGuardsWrong)

/- THE SECOND FORM. 'bulk': how many values and letters a reading holds, each counted each time it is reached (what is shared counts as often as it is met; a slice's spare places count too). A statement '..UptoSaid' is the law's where the arguments, and the package variables that the reading takes, are together of bulk at most 1048576: NARROWER than '..Said'. Prove '..Said' where nothing that the law and all that it calls make is longer than what came in: it says more and counts as full. Else prove '..UptoSaid'. A law counts once. -/
mutual
def uptoBulk {H : Type} : DataW H → Nat
  | .lit (.string bytes) => bytes.length + 1
  | .lit _ => 1
  | .nil => 1
  | .ptr d => uptoBulk d + 1
  | .slice elems spare => uptoBulkAll elems + uptoBulkAll spare + 1
  | .agg parts => uptoBulkAll parts + 1
  | .iface _ d => uptoBulk d + 1
  | .map entries => uptoBulkEntries entries + 1
  | .held _ => 1
def uptoBulkAll {H : Type} : List (DataW H) → Nat
  | [] => 0
  | d :: r => uptoBulk d + uptoBulkAll r
def uptoBulkEntries {H : Type} : List (Lit × DataW H) → Nat
  | [] => 0
  | x :: r => uptoBulkEntry x + uptoBulkEntries r
def uptoBulkEntry {H : Type} : Lit × DataW H → Nat
  | (.string bytes, d) => bytes.length + uptoBulk d + 1
  | (_, d) => uptoBulk d + 1
 end
def uptoSmall : (H : Type) → List (DataW H) → Bool := fun _ ds => decide (uptoBulkAll ds ≤ 1048576)
def OpenSpec.upto (s : _root_.Go.ChangeSpec) : _root_.Go.OpenSpec := { _root_.Go.OpenSpec.ofChange s with cond := some uptoSmall }

/-- 'furlonglaw12.AuditStates', WHERE WHAT IT READS IS OF BULK AT MOST 1048576: true; the input reads as it did. -/
def auditStatesUptoRow : OpenClaim := { program := "ytdhifabhjlbjiaa", sum := "9040c44c2ab4a5cd2c8b27ca6b8c6bd882899ecd84c9431cbe76f818e3d1a6d9", func := "furlong/furlonglaw12.AuditStates", spec := "auditStates", inPlace := ["math/bits.Sub64", "math/bits.Add64"], unfollowed := true, recurses := true, apart := false, narrowed := true }
def AuditStatesUptoSaid : Prop := auditStatesUptoRow.holds Try.pinned (OpenSpec.upto auditStatesSpec)

/-- 'furlonglaw12.AuditOrder', WHERE WHAT IT READS IS OF BULK AT MOST 1048576: true; the input reads as it did. -/
def auditOrderUptoRow : OpenClaim := { program := "ytdhifabhjlbjiaa", sum := "9040c44c2ab4a5cd2c8b27ca6b8c6bd882899ecd84c9431cbe76f818e3d1a6d9", func := "furlong/furlonglaw12.AuditOrder", spec := "auditOrder", inPlace := ["math/bits.Sub64", "math/bits.Add64"], unfollowed := true, recurses := true, apart := false, narrowed := true }
def AuditOrderUptoSaid : Prop := auditOrderUptoRow.holds Try.pinned (OpenSpec.upto auditOrderSpec)

/-- 'furlonglaw05.QueueApart', WHERE WHAT IT READS IS OF BULK AT MOST 1048576: true; the input reads as it did. -/
def queueApartUptoRow : OpenClaim := { program := "ytdhifabhjlbjiaa", sum := "9040c44c2ab4a5cd2c8b27ca6b8c6bd882899ecd84c9431cbe76f818e3d1a6d9", func := "furlong/furlonglaw05.QueueApart", spec := "queueApart", inPlace := ["slices.overlaps[furlong/api.Queue]"], unfollowed := true, recurses := true, apart := false, narrowed := true }
def QueueApartUptoSaid : Prop := queueApartUptoRow.holds Try.pinned (OpenSpec.upto queueApartSpec)

/-- 'furlonglaw05.QueueEdits', WHERE WHAT IT READS IS OF BULK AT MOST 1048576: true; the input reads as it did. -/
def queueEditsUptoRow : OpenClaim := { program := "ytdhifabhjlbjiaa", sum := "9040c44c2ab4a5cd2c8b27ca6b8c6bd882899ecd84c9431cbe76f818e3d1a6d9", func := "furlong/furlonglaw05.QueueEdits", spec := "queueEdits", inPlace := ["slices.overlaps[furlong/api.Queue]"], unfollowed := true, recurses := true, apart := false, narrowed := true }
def QueueEditsUptoSaid : Prop := queueEditsUptoRow.holds Try.pinned (OpenSpec.upto queueEditsSpec)

/-- 'furlonglaw05.QueueBack', WHERE WHAT IT READS IS OF BULK AT MOST 1048576: true; the input reads as it did. -/
def queueBackUptoRow : OpenClaim := { program := "ytdhifabhjlbjiaa", sum := "9040c44c2ab4a5cd2c8b27ca6b8c6bd882899ecd84c9431cbe76f818e3d1a6d9", func := "furlong/furlonglaw05.QueueBack", spec := "queueBack", inPlace := ["slices.overlaps[furlong/api.Queue]"], unfollowed := true, recurses := true, apart := false, narrowed := true }
def QueueBackUptoSaid : Prop := queueBackUptoRow.holds Try.pinned (OpenSpec.upto queueBackSpec)

/-- 'furlonglaw05.QueueAsks', WHERE WHAT IT READS IS OF BULK AT MOST 1048576: true; the input reads as it did. -/
def queueAsksUptoRow : OpenClaim := { program := "ytdhifabhjlbjiaa", sum := "9040c44c2ab4a5cd2c8b27ca6b8c6bd882899ecd84c9431cbe76f818e3d1a6d9", func := "furlong/furlonglaw05.QueueAsks", spec := "queueAsks", inPlace := ["slices.overlaps[furlong/api.Queue]"], unfollowed := true, recurses := true, apart := false, narrowed := true }
def QueueAsksUptoSaid : Prop := queueAsksUptoRow.holds Try.pinned (OpenSpec.upto queueAsksSpec)

/-- 'furlonglaw05.QueueTrees', WHERE WHAT IT READS IS OF BULK AT MOST 1048576: true; the input reads as it did. -/
def queueTreesUptoRow : OpenClaim := { program := "ytdhifabhjlbjiaa", sum := "9040c44c2ab4a5cd2c8b27ca6b8c6bd882899ecd84c9431cbe76f818e3d1a6d9", func := "furlong/furlonglaw05.QueueTrees", spec := "queueTrees", inPlace := ["slices.overlaps[furlong/api.Queue]"], unfollowed := true, recurses := true, apart := false, narrowed := true }
def QueueTreesUptoSaid : Prop := queueTreesUptoRow.holds Try.pinned (OpenSpec.upto queueTreesSpec)

/-- 'furlonglaw06.DrfChooses', WHERE WHAT IT READS IS OF BULK AT MOST 1048576: true; the input reads as it did. -/
def drfChoosesUptoRow : OpenClaim := { program := "ytdhifabhjlbjiaa", sum := "9040c44c2ab4a5cd2c8b27ca6b8c6bd882899ecd84c9431cbe76f818e3d1a6d9", func := "furlong/furlonglaw06.DrfChooses", spec := "drfChooses", unfollowed := true, recurses := true, apart := false, narrowed := true }
def DrfChoosesUptoSaid : Prop := drfChoosesUptoRow.holds Try.pinned (OpenSpec.upto drfChoosesSpec)

/-- 'furlonglaw06.DrfOrders', WHERE WHAT IT READS IS OF BULK AT MOST 1048576: true; the input reads as it did. -/
def drfOrdersUptoRow : OpenClaim := { program := "ytdhifabhjlbjiaa", sum := "9040c44c2ab4a5cd2c8b27ca6b8c6bd882899ecd84c9431cbe76f818e3d1a6d9", func := "furlong/furlonglaw06.DrfOrders", spec := "drfOrders", unfollowed := true, recurses := true, apart := false, narrowed := true }
def DrfOrdersUptoSaid : Prop := drfOrdersUptoRow.holds Try.pinned (OpenSpec.upto drfOrdersSpec)

/-- 'furlonglaw06.DrfTurns', WHERE WHAT IT READS IS OF BULK AT MOST 1048576: true; the input reads as it did. -/
def drfTurnsUptoRow : OpenClaim := { program := "ytdhifabhjlbjiaa", sum := "9040c44c2ab4a5cd2c8b27ca6b8c6bd882899ecd84c9431cbe76f818e3d1a6d9", func := "furlong/furlonglaw06.DrfTurns", spec := "drfTurns", unfollowed := true, recurses := true, apart := false, narrowed := true }
def DrfTurnsUptoSaid : Prop := drfTurnsUptoRow.holds Try.pinned (OpenSpec.upto drfTurnsSpec)

/-- 'furlonglaw05.QueueTotals', WHERE WHAT IT READS IS OF BULK AT MOST 1048576: true; the input reads as it did. -/
def queueTotalsUptoRow : OpenClaim := { program := "ytdhifabhjlbjiaa", sum := "9040c44c2ab4a5cd2c8b27ca6b8c6bd882899ecd84c9431cbe76f818e3d1a6d9", func := "furlong/furlonglaw05.QueueTotals", spec := "queueTotals", inPlace := ["slices.overlaps[furlong/api.Queue]"], unfollowed := true, recurses := true, apart := false, narrowed := true }
def QueueTotalsUptoSaid : Prop := queueTotalsUptoRow.holds Try.pinned (OpenSpec.upto queueTotalsSpec)

/-- 'furlonglaw06.DrfGrows', WHERE WHAT IT READS IS OF BULK AT MOST 1048576: true; the input reads as it did. -/
def drfGrowsUptoRow : OpenClaim := { program := "ytdhifabhjlbjiaa", sum := "9040c44c2ab4a5cd2c8b27ca6b8c6bd882899ecd84c9431cbe76f818e3d1a6d9", func := "furlong/furlonglaw06.DrfGrows", spec := "drfGrows", unfollowed := true, recurses := true, apart := false, narrowed := true }
def DrfGrowsUptoSaid : Prop := drfGrowsUptoRow.holds Try.pinned (OpenSpec.upto drfGrowsSpec)

/-- 'furlonglaw05.QueueSums', WHERE WHAT IT READS IS OF BULK AT MOST 1048576: true; the input reads as it did. -/
def queueSumsUptoRow : OpenClaim := { program := "ytdhifabhjlbjiaa", sum := "9040c44c2ab4a5cd2c8b27ca6b8c6bd882899ecd84c9431cbe76f818e3d1a6d9", func := "furlong/furlonglaw05.QueueSums", spec := "queueSums", inPlace := ["slices.overlaps[furlong/api.Queue]"], unfollowed := true, recurses := true, apart := false, narrowed := true }
def QueueSumsUptoSaid : Prop := queueSumsUptoRow.holds Try.pinned (OpenSpec.upto queueSumsSpec)

/-- 'furlonglaw06.DrfOne', WHERE WHAT IT READS IS OF BULK AT MOST 1048576: true; the input reads as it did. -/
def drfOneUptoRow : OpenClaim := { program := "ytdhifabhjlbjiaa", sum := "9040c44c2ab4a5cd2c8b27ca6b8c6bd882899ecd84c9431cbe76f818e3d1a6d9", func := "furlong/furlonglaw06.DrfOne", spec := "drfOne", unfollowed := true, recurses := true, apart := false, narrowed := true }
def DrfOneUptoSaid : Prop := drfOneUptoRow.holds Try.pinned (OpenSpec.upto drfOneSpec)

/-- 'furlonglaw05.QueueRooms', WHERE WHAT IT READS IS OF BULK AT MOST 1048576: true; the input reads as it did. -/
def queueRoomsUptoRow : OpenClaim := { program := "ytdhifabhjlbjiaa", sum := "9040c44c2ab4a5cd2c8b27ca6b8c6bd882899ecd84c9431cbe76f818e3d1a6d9", func := "furlong/furlonglaw05.QueueRooms", spec := "queueRooms", inPlace := ["slices.overlaps[furlong/api.Queue]"], unfollowed := true, recurses := true, apart := false, narrowed := true }
def QueueRoomsUptoSaid : Prop := queueRoomsUptoRow.holds Try.pinned (OpenSpec.upto queueRoomsSpec)

/-- 'furlonglaw06.DrfLeast', WHERE WHAT IT READS IS OF BULK AT MOST 1048576: true; the input reads as it did. -/
def drfLeastUptoRow : OpenClaim := { program := "ytdhifabhjlbjiaa", sum := "9040c44c2ab4a5cd2c8b27ca6b8c6bd882899ecd84c9431cbe76f818e3d1a6d9", func := "furlong/furlonglaw06.DrfLeast", spec := "drfLeast", unfollowed := true, recurses := true, apart := false, narrowed := true }
def DrfLeastUptoSaid : Prop := drfLeastUptoRow.holds Try.pinned (OpenSpec.upto drfLeastSpec)

/-- 'furlonglaw08.VictimUses', WHERE WHAT IT READS IS OF BULK AT MOST 1048576: true; the input reads as it did. -/
def victimUsesUptoRow : OpenClaim := { program := "ytdhifabhjlbjiaa", sum := "9040c44c2ab4a5cd2c8b27ca6b8c6bd882899ecd84c9431cbe76f818e3d1a6d9", func := "furlong/furlonglaw08.VictimUses", spec := "victimUses", unfollowed := true, recurses := true, apart := false, narrowed := true }
def VictimUsesUptoSaid : Prop := victimUsesUptoRow.holds Try.pinned (OpenSpec.upto victimUsesSpec)

/-- 'furlonglaw08.VictimChooses', WHERE WHAT IT READS IS OF BULK AT MOST 1048576: true; the input reads as it did. -/
def victimChoosesUptoRow : OpenClaim := { program := "ytdhifabhjlbjiaa", sum := "9040c44c2ab4a5cd2c8b27ca6b8c6bd882899ecd84c9431cbe76f818e3d1a6d9", func := "furlong/furlonglaw08.VictimChooses", spec := "victimChooses", unfollowed := true, recurses := true, apart := false, narrowed := true }
def VictimChoosesUptoSaid : Prop := victimChoosesUptoRow.holds Try.pinned (OpenSpec.upto victimChoosesSpec)

/-- 'furlonglaw08.VictimSpares', WHERE WHAT IT READS IS OF BULK AT MOST 1048576: true; the input reads as it did. -/
def victimSparesUptoRow : OpenClaim := { program := "ytdhifabhjlbjiaa", sum := "9040c44c2ab4a5cd2c8b27ca6b8c6bd882899ecd84c9431cbe76f818e3d1a6d9", func := "furlong/furlonglaw08.VictimSpares", spec := "victimSpares", unfollowed := true, recurses := true, apart := false, narrowed := true }
def VictimSparesUptoSaid : Prop := victimSparesUptoRow.holds Try.pinned (OpenSpec.upto victimSparesSpec)

/-- 'furlonglaw08.VictimStops', WHERE WHAT IT READS IS OF BULK AT MOST 1048576: true; the input reads as it did. -/
def victimStopsUptoRow : OpenClaim := { program := "ytdhifabhjlbjiaa", sum := "9040c44c2ab4a5cd2c8b27ca6b8c6bd882899ecd84c9431cbe76f818e3d1a6d9", func := "furlong/furlonglaw08.VictimStops", spec := "victimStops", unfollowed := true, recurses := true, apart := false, narrowed := true }
def VictimStopsUptoSaid : Prop := victimStopsUptoRow.holds Try.pinned (OpenSpec.upto victimStopsSpec)

/-- 'furlonglaw08.VictimStarves', WHERE WHAT IT READS IS OF BULK AT MOST 1048576: true; the input reads as it did. -/
def victimStarvesUptoRow : OpenClaim := { program := "ytdhifabhjlbjiaa", sum := "9040c44c2ab4a5cd2c8b27ca6b8c6bd882899ecd84c9431cbe76f818e3d1a6d9", func := "furlong/furlonglaw08.VictimStarves", spec := "victimStarves", unfollowed := true, recurses := true, apart := false, narrowed := true }
def VictimStarvesUptoSaid : Prop := victimStarvesUptoRow.holds Try.pinned (OpenSpec.upto victimStarvesSpec)

/-- 'furlonglaw08.VictimGuards', WHERE WHAT IT READS IS OF BULK AT MOST 1048576: true; the input reads as it did. -/
def victimGuardsUptoRow : OpenClaim := { program := "ytdhifabhjlbjiaa", sum := "9040c44c2ab4a5cd2c8b27ca6b8c6bd882899ecd84c9431cbe76f818e3d1a6d9", func := "furlong/furlonglaw08.VictimGuards", spec := "victimGuards", unfollowed := true, recurses := true, apart := false, narrowed := true }
def VictimGuardsUptoSaid : Prop := victimGuardsUptoRow.holds Try.pinned (OpenSpec.upto victimGuardsSpec)

end Rows
end Go.Proofs.Ytdhifabhjlbjiaa
