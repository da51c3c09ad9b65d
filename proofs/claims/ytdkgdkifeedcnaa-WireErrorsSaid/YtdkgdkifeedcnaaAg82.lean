/- What the functions of the seat do, from label to label. -/
import Derived.Test.YtdkgdkifeedcnaaAf
namespace Go.Am
open Go
set_option maxRecDepth 100000
theorem f82_eq (B : Base) (cl : CallK) (n : Nat) (x0 : AV) (x1 : AV) (H : Heap) (Q : AV → Heap → Prop) : fnK B cl (ALoop n) a82 [x0, x1] H (tidyK n Q) =
  (wait (aop B E0 H (fun v1 _ => wait (aop B E0 H (fun v2 _ => pStr (v1) fun s3 => pStr (v2) fun s4 => sbinK .eql (s3) (s4) fun v5 => tidyK n Q (v5) H) (.toStr (.const (x1))))) (.toStr (.const (x0))))) := by kernel_rfl
theorem f82_in {B : Base} {x0 : AV} {x1 : AV} {H : Heap} {Q : AV → Heap → Prop} (h : ∀ n cl, n = H.length → cl = Cl B → LowH n H → LowL n [x0, x1] →
  (aop B E0 H (fun v1 _ => (aop B E0 H (fun v2 _ => pStr (v1) fun s3 => pStr (v2) fun s4 => sbinK .eql (s3) (s4) fun v5 => tidyK n Q (v5) H) (.toStr (.const (x1))))) (.toStr (.const (x0))))) : Cl B 82 [x0, x1] H Q := ACall.intro rfl fun h1 h2 => by
    have h3 := h _ _ rfl rfl h1 h2
    exact (Eq.mpr (f82_eq B (Cl B) H.length x0 x1 H Q) (by simp only [wait_eq] at h3 ⊢; exact h3))
end Go.Am
