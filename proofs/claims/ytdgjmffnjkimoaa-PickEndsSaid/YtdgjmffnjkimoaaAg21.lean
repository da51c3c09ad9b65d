/- What the functions of the seat do, from label to label. -/
import Derived.Test.YtdgjmffnjkimoaaAf
namespace Go.Am
open Go
set_option maxRecDepth 100000
theorem f21_eq (B : Base) (cl : CallK) (n : Nat) (x0 : AV) (H : Heap) (Q : AV → Heap → Prop) : fnK B cl (ALoop n) a21 [x0] H (tidyK n Q) =
  (wait (aop B E0 H (fun v1 H2 => wait (aop B E0 H2 (fun v3 _ => ob (peek B H2 (v3)) fun c4 => pInt .i64 c4 fun n5 => ob (peekN B H2 36 (v1)) fun c6 => cl 22 [.agg c6] H2 fun v7 H8 => pInt .i64 v7 fun n9 => (ob (peek B H8 (v3)) fun c11 => pInt .i64 c11 fun n12 => (.int .i64 (n12) : AV) = .int .i64 (n5)) ∧ ((wait (aop B E0 H8 (fun v10 _ => (v10 : AV) = v3) (.fieldPtr 1 (.const (v1))))) ∧ (tidyK n Q (.int .i64 (IntKind.i64.wrap (n5 * n9))) H8))) (.fieldPtr 1 (.const (v1))))) (.box 36 (.const (x0))))) := by kernel_rfl
theorem f21_in {B : Base} {x0 : AV} {H : Heap} {Q : AV → Heap → Prop} (h : ∀ n cl, n = H.length → cl = Cl B → LowH n H → LowL n [x0] →
  (aop B E0 H (fun v1 H2 => (aop B E0 H2 (fun v3 _ => ob (peek B H2 (v3)) fun c4 => pInt .i64 c4 fun n5 => ob (peekN B H2 36 (v1)) fun c6 => cl 22 [.agg c6] H2 fun v7 H8 => pInt .i64 v7 fun n9 => (ob (peek B H8 (v3)) fun c11 => pInt .i64 c11 fun n12 => (.int .i64 (n12) : AV) = .int .i64 (n5)) ∧ (((aop B E0 H8 (fun v10 _ => (v10 : AV) = v3) (.fieldPtr 1 (.const (v1))))) ∧ (tidyK n Q (.int .i64 (IntKind.i64.wrap (n5 * n9))) H8))) (.fieldPtr 1 (.const (v1))))) (.box 36 (.const (x0))))) : Cl B 21 [x0] H Q := ACall.intro rfl fun h1 h2 => by
    have h3 := h _ _ rfl rfl h1 h2
    exact (Eq.mpr (f21_eq B (Cl B) H.length x0 H Q) (by simp only [wait_eq] at h3 ⊢; exact h3))
end Go.Am
