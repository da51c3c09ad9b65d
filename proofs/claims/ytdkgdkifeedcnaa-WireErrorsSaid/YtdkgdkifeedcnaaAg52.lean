/- What the functions of the seat do, from label to label. -/
import Derived.Test.YtdkgdkifeedcnaaAf
namespace Go.Am
open Go
set_option maxRecDepth 100000
theorem f52_eq (B : Base) (cl : CallK) (n : Nat) (x0 : AV) (x1 : AV) (x2 : AV) (H : Heap) (Q : AV → Heap → Prop) : fnK B cl (ALoop n) a52 [x0, x1, x2] H (tidyK n Q) =
  (pInt .i64 (x1) fun n1 => bs ((n1 : Int) == 0) (cl 82 [x0, x2] H fun v2 H3 => tyK .bool v2 fun v4 => tidyK n Q (v4) H3) (tidyK n Q (.bool false) H)) := by kernel_rfl
theorem f52_in {B : Base} {x0 : AV} {x1 : AV} {x2 : AV} {H : Heap} {Q : AV → Heap → Prop} (h : ∀ n cl, n = H.length → cl = Cl B → LowH n H → LowL n [x0, x1, x2] →
  pInt .i64 (x1) fun n1 => bs ((n1 : Int) == 0) (cl 82 [x0, x2] H fun v2 H3 => tyK .bool v2 fun v4 => tidyK n Q (v4) H3) (tidyK n Q (.bool false) H)) : Cl B 52 [x0, x1, x2] H Q := ACall.intro rfl fun h1 h2 => by
    have h3 := h _ _ rfl rfl h1 h2
    exact (Eq.mpr (f52_eq B (Cl B) H.length x0 x1 x2 H Q) h3)
end Go.Am
