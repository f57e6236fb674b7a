/- The document's answer for queues: sums and room. -/
import Derived.Test.YtdhifabhjlbjiaaQD
import Derived.Test.YtdhifabhjlbjiaaQJ
import Derived.Test.YtdhifabhjlbjiaaMQall
set_option linter.all false
namespace Go.Idl
open Go.Proofs
set_option linter.unusedSimpArgs false
set_option linter.unusedVariables false
set_option maxRecDepth 8000
set_option maxHeartbeats 2000000
variable (b c : Bool)

abbrev encVs (b : Bool) (l : List (Int × Int)) : D := .sl b 2 (l.map encV)
def sumsV (l : List Q) (uses : List U) : V := if sumsE l uses = 0 then .tup [.d (encVs false (sumsL l uses)), .d (I 0)] else .tup [.nil 2, .d (I (sumsE l uses))]
theorem sums_use {l : List Q} {uses : List U} (hc : check l = 0) (h : usesE l uses ≠ 0) : sumsE l uses = usesE l uses := by simp [sumsE, hc, h]
end Go.Idl
