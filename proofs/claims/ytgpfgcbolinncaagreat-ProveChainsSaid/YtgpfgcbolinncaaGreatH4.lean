/- The closed run itself, by the kernel. (written by tools/hints.py) -/
import Derived.Test.YtgpfgcbolinncaaGreatH0
import Derived.Test.YtgpfgcbolinncaaGreatH1
import Derived.Test.YtgpfgcbolinncaaGreatH2
import Derived.Test.YtgpfgcbolinncaaGreatH3
namespace Go.Proofs.YtgpfgcbolinncaaGreat.Abs
open Go Go.RowKit
def tabs : HTab := tab0 ++ (tab1 ++ (tab2 ++ (tab3)))
theorem tabs_ok : tabB (fnOf Tryz.prog) tabs = true := (tabB_app tab0_ok (tabB_app tab1_ok (tabB_app tab2_ok tab3_ok)))
set_option maxRecDepth 100000 in
theorem awake_quick : kcall Tryz.prog (fnOf Tryz.prog) (hsOf tabs) 300 7 [] ks0 (fun r _ => yesK r) = true := by kernel_rfl
theorem awake_eval : ∃ s, evalFn Tryz.prog (fnOf Tryz.prog) noPrim 300 7 #[] sEmptyK = some (.ret (.bool true), s) := yes_of (hints_of tabs_ok) awake_quick
end Go.Proofs.YtgpfgcbolinncaaGreat.Abs
