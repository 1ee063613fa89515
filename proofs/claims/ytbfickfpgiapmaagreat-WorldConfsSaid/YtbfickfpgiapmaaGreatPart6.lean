/- Part 6 of the texts that the proof needs: the abstract machine, plain laws, contracts of the program's functions. No statement is claimed here. -/
import Derived.Test.YtbfickfpgiapmaaGreatPart5
set_option linter.unusedVariables false
set_option linter.unusedSimpArgs false
section
/- The first run answers true. -/
open Go Go.AM
namespace Go.Wk
set_option maxRecDepth 100000
set_option maxHeartbeats 0
noncomputable def knA : List Known := [kNHa, kNTi, kCHa, kLHa, kNTa, kKPu, kNSe, kCTi, kLTi, kPut, kGet, kSum, kTr]
theorem awE : callT (envM mdA (orcOf knA)) 400 F_lockgatelaw25_awake [] = some (.bool true) := by kernel_rfl
end Go.Wk
end
