/- What the functions of the seat do, from label to label. -/
import Derived.Test.YtdkgdkifeedcnaaAf
namespace Go.Am
open Go
set_option maxRecDepth 100000
theorem f30_eq (B : Base) (cl : CallK) (n : Nat) (x0 : AV) (H : Heap) (Q : AV → Heap → Prop) : fnK B cl (ALoop n) a30 [x0] H (tidyK n Q) =
  (wait (aop B E0 H (fun v1 _ => wait (aop B E0 H (fun v2 _ => ob (peek B H (v2)) fun c3 => pBool c3 fun b4 => bs (b4) (tidyK n Q (.tuple [.nils, .int .i64 (1)]) H) (wait (aop B E0 H (fun v5 _ => wait (aop B E0 H (fun v6 _ => ob (peek B H (v6)) fun c7 => pLive c7 fun v8 => tidyK n Q (.tuple [v8, .int .i64 (0)]) H) (.fieldPtr 0 (.const (v5))))) (.nilCheck (.const (x0)))))) (.fieldPtr 1 (.const (v1))))) (.nilCheck (.const (x0))))) := by kernel_rfl
theorem f30_in {B : Base} {x0 : AV} {H : Heap} {Q : AV → Heap → Prop} (h : ∀ n cl, n = H.length → cl = Cl B → LowH n H → LowL n [x0] →
  (aop B E0 H (fun v1 _ => (aop B E0 H (fun v2 _ => ob (peek B H (v2)) fun c3 => pBool c3 fun b4 => bs (b4) (tidyK n Q (.tuple [.nils, .int .i64 (1)]) H) ((aop B E0 H (fun v5 _ => (aop B E0 H (fun v6 _ => ob (peek B H (v6)) fun c7 => pLive c7 fun v8 => tidyK n Q (.tuple [v8, .int .i64 (0)]) H) (.fieldPtr 0 (.const (v5))))) (.nilCheck (.const (x0)))))) (.fieldPtr 1 (.const (v1))))) (.nilCheck (.const (x0))))) : Cl B 30 [x0] H Q := ACall.intro rfl fun h1 h2 => by
    have h3 := h _ _ rfl rfl h1 h2
    exact (Eq.mpr (f30_eq B (Cl B) H.length x0 H Q) (by simp only [wait_eq] at h3 ⊢; exact h3))
end Go.Am
