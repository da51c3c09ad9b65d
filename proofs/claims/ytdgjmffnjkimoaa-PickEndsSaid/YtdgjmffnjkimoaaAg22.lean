/- What the functions of the seat do, from label to label. -/
import Derived.Test.YtdgjmffnjkimoaaAf
namespace Go.Am
open Go
set_option maxRecDepth 100000
theorem f22_eq (B : Base) (cl : CallK) (n : Nat) (x0 : AV) (H : Heap) (Q : AV → Heap → Prop) : fnK B cl (ALoop n) a22 [x0] H (tidyK n Q) =
  (wait (aop B E0 H (fun v1 H2 => wait (aop B E0 H2 (fun v3 _ => ob (peek B H2 (v3)) fun c4 => pInt .i64 c4 fun n5 => bs (decide ((n5 : Int) < 0)) (tidyK n Q (.int .i64 (0)) H2) (wait (aop B E0 H2 (fun v6 _ => ob (peek B H2 (v6)) fun c7 => pInt .i64 c7 fun n8 => bs (decide ((n8 : Int) ≥ 4)) (tidyK n Q (.int .i64 (0)) H2) (wait (aop B E0 H2 (fun v9 _ => ob (peek B H2 (v9)) fun c10 => pInt .i64 c10 fun n11 => tidyK n Q (.int .i64 (IntKind.i64.wrap (3 - n11))) H2) (.fieldPtr 0 (.const (v1)))))) (.fieldPtr 0 (.const (v1)))))) (.fieldPtr 0 (.const (v1))))) (.box 36 (.const (x0))))) := by kernel_rfl
theorem f22_in {B : Base} {x0 : AV} {H : Heap} {Q : AV → Heap → Prop} (h : ∀ n cl, n = H.length → cl = Cl B → LowH n H → LowL n [x0] →
  (aop B E0 H (fun v1 H2 => (aop B E0 H2 (fun v3 _ => ob (peek B H2 (v3)) fun c4 => pInt .i64 c4 fun n5 => bs (decide ((n5 : Int) < 0)) (tidyK n Q (.int .i64 (0)) H2) ((aop B E0 H2 (fun v6 _ => ob (peek B H2 (v6)) fun c7 => pInt .i64 c7 fun n8 => bs (decide ((n8 : Int) ≥ 4)) (tidyK n Q (.int .i64 (0)) H2) ((aop B E0 H2 (fun v9 _ => ob (peek B H2 (v9)) fun c10 => pInt .i64 c10 fun n11 => tidyK n Q (.int .i64 (IntKind.i64.wrap (3 - n11))) H2) (.fieldPtr 0 (.const (v1)))))) (.fieldPtr 0 (.const (v1)))))) (.fieldPtr 0 (.const (v1))))) (.box 36 (.const (x0))))) : Cl B 22 [x0] H Q := ACall.intro rfl fun h1 h2 => by
    have h3 := h _ _ rfl rfl h1 h2
    exact (Eq.mpr (f22_eq B (Cl B) H.length x0 H Q) (by simp only [wait_eq] at h3 ⊢; exact h3))
end Go.Am
