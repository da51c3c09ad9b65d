/- What the functions of the seat do, from label to label. -/
import Derived.Test.YtdkgdkifeedcnaaAf
namespace Go.Am
open Go
set_option maxRecDepth 100000
theorem f28_eq (B : Base) (cl : CallK) (n : Nat) (x0 : AV) (x1 : List UInt8) (H : Heap) (Q : AV → Heap → Prop) : fnK B cl (ALoop n) a28 [x0, .str (x1)] H (tidyK n Q) =
  (wait (aop B E0 H (fun v1 _ => wait (aop B E0 H (fun v2 _ => ob (peek B H (v2)) fun c3 => pLive c3 fun v4 => cl 61 [v4, .str (x1)] H fun v5 H6 => pLive v5 fun v7 => wait (aop B E0 H6 (fun v8 _ => wait (aop B E0 H6 (fun v9 _ => wait (aop B E0 H6 (fun v10 H11 => tidyK n Q (.tuple []) H11) (.st 1 (.const (v9)) (.const (v7))))) (.fieldPtr 0 (.const (v8))))) (.nilCheck (.const (x0))))) (.fieldPtr 0 (.const (v1))))) (.nilCheck (.const (x0))))) := by kernel_rfl
theorem f28_in {B : Base} {x0 : AV} {x1 : List UInt8} {H : Heap} {Q : AV → Heap → Prop} (h : ∀ n cl, n = H.length → cl = Cl B → LowH n H → LowL n [x0, .str (x1)] →
  (aop B E0 H (fun v1 _ => (aop B E0 H (fun v2 _ => ob (peek B H (v2)) fun c3 => pLive c3 fun v4 => cl 61 [v4, .str (x1)] H fun v5 H6 => pLive v5 fun v7 => (aop B E0 H6 (fun v8 _ => (aop B E0 H6 (fun v9 _ => (aop B E0 H6 (fun v10 H11 => tidyK n Q (.tuple []) H11) (.st 1 (.const (v9)) (.const (v7))))) (.fieldPtr 0 (.const (v8))))) (.nilCheck (.const (x0))))) (.fieldPtr 0 (.const (v1))))) (.nilCheck (.const (x0))))) : Cl B 28 [x0, .str (x1)] H Q := ACall.intro rfl fun h1 h2 => by
    have h3 := h _ _ rfl rfl h1 h2
    exact (Eq.mpr (f28_eq B (Cl B) H.length x0 x1 H Q) (by simp only [wait_eq] at h3 ⊢; exact h3))
end Go.Am
