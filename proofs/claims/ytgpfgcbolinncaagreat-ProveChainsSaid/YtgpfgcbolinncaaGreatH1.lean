/- The regions of the functions that the closed run enters: a table, and that it is right (part 1). (written by tools/hints.py) -/
import Derived.Test.YtgpfgcbolinncaaGreatK8
import Derived.Test.YtgpfgcbolinncaaGreatProg
import Derived.KernelRfl
namespace Go.Proofs.YtgpfgcbolinncaaGreat.Abs
open Go Go.RowKit
def tab1 : HTab := [(5, []), (13, []), (17, []), (22, []), (26, []), (30, []), (34, []), (40, []), (44, []), (48, []), (52, []), (56, []), (60, []), (64, []), (69, []), (73, []), (79, []), (83, []), (88, []), (92, []), (96, []), (100, []), (104, []), (109, []), (113, []), (118, []), (122, []), (127, []), (131, []), (136, []), (140, []), (144, []), (148, []), (155, []), (159, []), (163, []), (168, []), (176, []), (180, []), (185, []), (189, [(5, 6)]), (198, []), (205, []), (209, [])]
set_option maxRecDepth 100000 in
theorem tab1_ok : tabB (fnOf Tryz.prog) tab1 = true := by kernel_rfl
end Go.Proofs.YtgpfgcbolinncaaGreat.Abs
