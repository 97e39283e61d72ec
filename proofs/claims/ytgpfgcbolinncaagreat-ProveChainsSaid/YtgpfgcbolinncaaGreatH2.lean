/- The regions of the functions that the closed run enters: a table, and that it is right (part 2). (written by tools/hints.py) -/
import Derived.Test.YtgpfgcbolinncaaGreatK8
import Derived.Test.YtgpfgcbolinncaaGreatProg
import Derived.KernelRfl
namespace Go.Proofs.YtgpfgcbolinncaaGreat.Abs
open Go Go.RowKit
def tab2 : HTab := [(7, []), (14, []), (18, [(13, 8), (14, 7)]), (23, []), (27, []), (31, []), (35, []), (41, []), (45, []), (49, []), (53, []), (57, []), (61, []), (65, []), (70, []), (74, [(21, 8)]), (80, []), (84, []), (89, []), (93, []), (97, []), (101, []), (105, []), (110, []), (114, []), (119, []), (123, []), (128, []), (133, []), (137, []), (141, []), (145, [(2, 7)]), (150, []), (156, []), (160, []), (165, []), (169, []), (177, []), (181, []), (186, []), (191, []), (200, []), (206, [])]
set_option maxRecDepth 100000 in
theorem tab2_ok : tabB (fnOf Tryz.prog) tab2 = true := by kernel_rfl
end Go.Proofs.YtgpfgcbolinncaaGreat.Abs
