/- The regions of the functions that the closed run enters: a table, and that it is right (part 0). (written by tools/hints.py) -/
import Derived.Test.YtgpfgcbolinncaaGreatK8
import Derived.Test.YtgpfgcbolinncaaGreatProg
import Derived.KernelRfl
namespace Go.Proofs.YtgpfgcbolinncaaGreat.Abs
open Go Go.RowKit
def tab0 : HTab := [(4, []), (12, []), (16, []), (21, []), (25, []), (29, [(6, 8)]), (33, []), (39, []), (43, []), (47, []), (51, [(6, 19), (8, 8), (11, 11), (15, 7)]), (55, []), (59, []), (63, []), (67, []), (72, []), (78, []), (82, []), (87, []), (91, []), (95, []), (99, []), (103, []), (108, []), (112, [(20, 19)]), (117, []), (121, []), (126, []), (130, []), (135, []), (139, []), (143, []), (147, []), (154, []), (158, []), (162, []), (167, []), (175, []), (179, []), (183, []), (188, []), (197, []), (203, []), (208, [])]
set_option maxRecDepth 100000 in
theorem tab0_ok : tabB (fnOf Tryz.prog) tab0 = true := by kernel_rfl
end Go.Proofs.YtgpfgcbolinncaaGreat.Abs
