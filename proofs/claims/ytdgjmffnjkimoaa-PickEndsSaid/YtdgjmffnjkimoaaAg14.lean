/- What the functions of the seat do, from label to label. -/
import Derived.Test.YtdgjmffnjkimoaaAf
namespace Go.Am
open Go
set_option maxRecDepth 100000
theorem f14_eq (B : Base) (cl : CallK) (n : Nat) (x0 : Int) (H : Heap) (Q : AV → Heap → Prop) : fnK B cl (ALoop n) a14 [.int .i64 (x0)] H (tidyK n Q) =
  (bs ((x0 : Int) == 0) (tidyK n Q (.int .i64 (4)) H) (bs (decide ((x0 : Int) < 0)) (tidyK n Q (.int .i64 ((-1))) H) (bs (decide ((x0 : Int) ≥ 3)) (tidyK n Q (.int .i64 ((-1))) H) (wait (aop B E0 H (fun v1 _ => tidyK n Q (v1) H) (.shf .shl .i64 (.const (.int .i64 8)) (.const (.int .i64 (IntKind.i64.wrap (2 * IntKind.i64.wrap (x0 - 1))))))))))) := by kernel_rfl
theorem f14_in {B : Base} {x0 : Int} {H : Heap} {Q : AV → Heap → Prop} (h : ∀ n cl, n = H.length → cl = Cl B → LowH n H → LowL n [.int .i64 (x0)] →
  bs ((x0 : Int) == 0) (tidyK n Q (.int .i64 (4)) H) (bs (decide ((x0 : Int) < 0)) (tidyK n Q (.int .i64 ((-1))) H) (bs (decide ((x0 : Int) ≥ 3)) (tidyK n Q (.int .i64 ((-1))) H) ((aop B E0 H (fun v1 _ => tidyK n Q (v1) H) (.shf .shl .i64 (.const (.int .i64 8)) (.const (.int .i64 (IntKind.i64.wrap (2 * IntKind.i64.wrap (x0 - 1))))))))))) : Cl B 14 [.int .i64 (x0)] H Q := ACall.intro rfl fun h1 h2 => by
    have h3 := h _ _ rfl rfl h1 h2
    exact (Eq.mpr (f14_eq B (Cl B) H.length x0 H Q) (by simp only [wait_eq] at h3 ⊢; exact h3))
end Go.Am
