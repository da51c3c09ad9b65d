/- What the functions of the seat do, from label to label. -/
import Derived.Test.YtdkgdkifeedcnaaAf
namespace Go.Am
open Go
set_option maxRecDepth 100000
theorem f25_eq (B : Base) (cl : CallK) (n : Nat) (x0 : AV) (x1 : Bool) (H : Heap) (Q : AV → Heap → Prop) : fnK B cl (ALoop n) a25 [x0, .bool x1] H (tidyK n Q) =
  (wait (aop B E0 H (fun v1 _ => wait (aop B E0 H (fun v2 _ => ob (peek B H (v2)) fun c3 => pBool c3 fun b4 => bs (b4) (wait (aop B E0 H (fun v5 _ => wait (aop B E0 H (fun v6 _ => wait (aop B E0 H (fun v7 H8 => tidyK n Q (.tuple []) H8) (.st 1 (.const (v6)) (.const (.bool true))))) (.fieldPtr 1 (.const (v5))))) (.nilCheck (.const (x0))))) (wait (aop B E0 H (fun v9 _ => wait (aop B E0 H (fun v10 _ => wait (aop B E0 H (fun v11 _ => wait (aop B E0 H (fun v12 H13 => tidyK n Q (.tuple []) H13) (.st 1 (.const (v11)) (.const (v9))))) (.fieldPtr 1 (.const (v10))))) (.nilCheck (.const (x0))))) (.not (.const (.bool x1)))))) (.fieldPtr 1 (.const (v1))))) (.nilCheck (.const (x0))))) := by kernel_rfl
theorem f25_in {B : Base} {x0 : AV} {x1 : Bool} {H : Heap} {Q : AV → Heap → Prop} (h : ∀ n cl, n = H.length → cl = Cl B → LowH n H → LowL n [x0, .bool x1] →
  (aop B E0 H (fun v1 _ => (aop B E0 H (fun v2 _ => ob (peek B H (v2)) fun c3 => pBool c3 fun b4 => bs (b4) ((aop B E0 H (fun v5 _ => (aop B E0 H (fun v6 _ => (aop B E0 H (fun v7 H8 => tidyK n Q (.tuple []) H8) (.st 1 (.const (v6)) (.const (.bool true))))) (.fieldPtr 1 (.const (v5))))) (.nilCheck (.const (x0))))) ((aop B E0 H (fun v9 _ => (aop B E0 H (fun v10 _ => (aop B E0 H (fun v11 _ => (aop B E0 H (fun v12 H13 => tidyK n Q (.tuple []) H13) (.st 1 (.const (v11)) (.const (v9))))) (.fieldPtr 1 (.const (v10))))) (.nilCheck (.const (x0))))) (.not (.const (.bool x1)))))) (.fieldPtr 1 (.const (v1))))) (.nilCheck (.const (x0))))) : Cl B 25 [x0, .bool x1] H Q := ACall.intro rfl fun h1 h2 => by
    have h3 := h _ _ rfl rfl h1 h2
    exact (Eq.mpr (f25_eq B (Cl B) H.length x0 x1 H Q) (by simp only [wait_eq] at h3 ⊢; exact h3))
end Go.Am
