/- What the functions of the seat do, from label to label. -/
import Derived.Test.YtdgjmffnjkimoaaAf
namespace Go.Am
open Go
set_option maxRecDepth 100000
theorem f15_eq (B : Base) (cl : CallK) (n : Nat) (x0 : Int) (H : Heap) (Q : AV → Heap → Prop) : fnK B cl (ALoop n) a15 [.int .i64 (x0)] H (tidyK n Q) =
  (bs ((x0 : Int) == 0) (tidyK n Q (.int .i64 (4)) H) (bs ((x0 : Int) == 1) (tidyK n Q (.int .i64 (8)) H) (bs ((x0 : Int) == 2) (tidyK n Q (.int .i64 (32)) H) (tidyK n Q (.int .i64 ((-1))) H)))) := by kernel_rfl
theorem f15_in {B : Base} {x0 : Int} {H : Heap} {Q : AV → Heap → Prop} (h : ∀ n cl, n = H.length → cl = Cl B → LowH n H → LowL n [.int .i64 (x0)] →
  bs ((x0 : Int) == 0) (tidyK n Q (.int .i64 (4)) H) (bs ((x0 : Int) == 1) (tidyK n Q (.int .i64 (8)) H) (bs ((x0 : Int) == 2) (tidyK n Q (.int .i64 (32)) H) (tidyK n Q (.int .i64 ((-1))) H)))) : Cl B 15 [.int .i64 (x0)] H Q := ACall.intro rfl fun h1 h2 => by
    have h3 := h _ _ rfl rfl h1 h2
    exact (Eq.mpr (f15_eq B (Cl B) H.length x0 H Q) h3)
end Go.Am
