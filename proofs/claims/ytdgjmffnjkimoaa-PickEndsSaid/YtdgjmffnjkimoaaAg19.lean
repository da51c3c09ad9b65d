/- What the functions of the seat do, from label to label. -/
import Derived.Test.YtdgjmffnjkimoaaAf
namespace Go.Am
open Go
set_option maxRecDepth 100000
theorem f19_eq (B : Base) (cl : CallK) (n : Nat) (x0 : AV) (x1 : AV) (H : Heap) (Q : AV → Heap → Prop) : fnK B cl (ALoop n) a19 [x0, x1] H (tidyK n Q) =
  (wait (aop B E0 H (fun v1 H2 => wait (aop B E0 H2 (fun v3 H4 => wait (aop B E0 H4 (fun v5 _ => ob (peek B H4 (v5)) fun c6 => pInt .i64 c6 fun n7 => wait (aop B E0 H4 (fun v8 _ => ob (peek B H4 (v8)) fun c9 => pInt .i64 c9 fun n10 => ibinK .eql .i64 (n7) (n10) fun v11 => tidyK n Q (v11) H4) (.fieldPtr 0 (.const (v1))))) (.fieldPtr 0 (.const (v3))))) (.box 36 (.const (x1))))) (.box 3 (.const (x0))))) := by kernel_rfl
theorem f19_in {B : Base} {x0 : AV} {x1 : AV} {H : Heap} {Q : AV → Heap → Prop} (h : ∀ n cl, n = H.length → cl = Cl B → LowH n H → LowL n [x0, x1] →
  (aop B E0 H (fun v1 H2 => (aop B E0 H2 (fun v3 H4 => (aop B E0 H4 (fun v5 _ => ob (peek B H4 (v5)) fun c6 => pInt .i64 c6 fun n7 => (aop B E0 H4 (fun v8 _ => ob (peek B H4 (v8)) fun c9 => pInt .i64 c9 fun n10 => ibinK .eql .i64 (n7) (n10) fun v11 => tidyK n Q (v11) H4) (.fieldPtr 0 (.const (v1))))) (.fieldPtr 0 (.const (v3))))) (.box 36 (.const (x1))))) (.box 3 (.const (x0))))) : Cl B 19 [x0, x1] H Q := ACall.intro rfl fun h1 h2 => by
    have h3 := h _ _ rfl rfl h1 h2
    exact (Eq.mpr (f19_eq B (Cl B) H.length x0 x1 H Q) (by simp only [wait_eq] at h3 ⊢; exact h3))
end Go.Am
