/- The regions of the functions that the closed run enters: a table, and that it is right (part 3). (written by tools/hints.py) -/
import Derived.Test.YtgpfgcbolinncaaGreatK8
import Derived.Test.YtgpfgcbolinncaaGreatProg
import Derived.KernelRfl
namespace Go.Proofs.YtgpfgcbolinncaaGreat.Abs
open Go Go.RowKit
def tab3 : HTab := [(10, [(6, 10)]), (15, []), (20, []), (24, []), (28, []), (32, []), (38, []), (42, []), (46, []), (50, []), (54, []), (58, []), (62, []), (66, []), (71, []), (77, []), (81, []), (86, []), (90, []), (94, []), (98, []), (102, []), (107, []), (111, []), (115, []), (120, []), (125, []), (129, []), (134, []), (138, []), (142, []), (146, []), (151, [(10, 10)]), (157, []), (161, []), (166, []), (170, []), (178, []), (182, []), (187, []), (195, []), (202, []), (207, [])]
set_option maxRecDepth 100000 in
theorem tab3_ok : tabB (fnOf Tryz.prog) tab3 = true := by kernel_rfl
end Go.Proofs.YtgpfgcbolinncaaGreat.Abs
