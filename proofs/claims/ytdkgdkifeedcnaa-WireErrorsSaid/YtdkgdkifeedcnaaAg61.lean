/- What the functions of the seat do, from label to label. -/
import Derived.Test.YtdkgdkifeedcnaaAf
namespace Go.Am
open Go
set_option maxRecDepth 100000
theorem f61_eq (B : Base) (cl : CallK) (n : Nat) (x0 : AV) (x1 : List UInt8) (H : Heap) (Q : AV → Heap → Prop) : fnK B cl (ALoop n) a61 [x0, .str (x1)] H (tidyK n Q) =
  (cl 62 [x0, .int .u64 (IntKind.u64.wrap (((List.length (x1) : Nat) : Int)))] H fun v1 H2 => pLive v1 fun v3 => wait (aop B E0 H2 (fun v4 H5 => tidyK n Q (v4) H5) (.appendS (.const (v3)) (.const (.str (x1)))))) := by kernel_rfl
theorem f61_in {B : Base} {x0 : AV} {x1 : List UInt8} {H : Heap} {Q : AV → Heap → Prop} (h : ∀ n cl, n = H.length → cl = Cl B → LowH n H → LowL n [x0, .str (x1)] →
  cl 62 [x0, .int .u64 (IntKind.u64.wrap (((List.length (x1) : Nat) : Int)))] H fun v1 H2 => pLive v1 fun v3 => (aop B E0 H2 (fun v4 H5 => tidyK n Q (v4) H5) (.appendS (.const (v3)) (.const (.str (x1)))))) : Cl B 61 [x0, .str (x1)] H Q := ACall.intro rfl fun h1 h2 => by
    have h3 := h _ _ rfl rfl h1 h2
    exact (Eq.mpr (f61_eq B (Cl B) H.length x0 x1 H Q) (by simp only [wait_eq] at h3 ⊢; exact h3))
end Go.Am
