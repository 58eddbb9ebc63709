import Derived.Test.YtfkpimjiaijmgaaGx18
import Derived.Test.YtfkpimjiaijmgaaQLSlicesSatisfy
namespace Go.Proofs.Ytfkpimjiaijmgaa.Pure
open Go.RowKit Go.Proofs.Ytfkpimjiaijmgaa.G Go.Proofs.YtfkpimjiaijmgaaW.PrintWords Go.Proofs.YtfkpimjiaijmgaaW.PrintLast

/-- YOURS: ∀ (l0 : List Int), l0.length ≤ maxLen → l0.length * 8 ≤ 140737488351232 → (∀ x ∈ l0, (Lit.int .i64 x).wf = true) → ∃ k, trustquorumlaw05_SlicesSatisfy.f k l0 = some true
What it reaches (each with k first where it has rounds; `.mono`: more rounds tell the same; `.l0`, ..: its loops, with `.mono_l`): trustquorummake_New.f, trustquorummake_Tape_N.f, trustquorummake_Tape_Range.f, trustquorummake_Tape_Order.f, trustquorummake_Tape_Pick.f, trustquorummake_trust.f, trustquorumref02_Depth.f, trustquorumref02_Size.f, trustquorumref01_Valid.f, trustquorumref01_Has.f, trustquorumref01_Of.f, trustquorumref02_check.f, trustquorumref02_Valid.f, trustquorummake_Trust.f, threshold_Depth.f, threshold_Size.f, nodeset_below.f, nodeset_Valid.f, nodeset_Has.f, nodeset_Of.f, threshold_node.f, threshold_level_1.f, threshold_level.f, threshold_Valid.f, cmp_Or_int.f, cmp_isNaN_int.f, cmp_Compare_int.f, bits_OnesCount64.f, bits_OnesCount.f, nodeset_Size.f, nodeset_rank.f, nodeset_Compare.f, nodeset_Least.f, nodeset_Next.f, slices_inOrder.f, slices_least.f, threshold_Satisfied.f, slices_Slices.f, trustquorumref02_Satisfied.f, trustquorumref02_Blocked.f, threshold_Blocked.f, slices_Blocking.f, trustquorummake_Ints.f, trustquorumlaw05_awake.f, trustquorumlaw05_SlicesSatisfy.f -/
theorem SlicesSatisfy : trustquorumlaw05_SlicesSatisfy.Pure := Q.slicesSatisfy_true

end Go.Proofs.Ytfkpimjiaijmgaa.Pure
