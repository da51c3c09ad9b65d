/- What the functions of the seat do, from label to label. -/
import Derived.Test.YtdgjmffnjkimoaaAf
namespace Go.Am
open Go
set_option maxRecDepth 100000
theorem f20_eq (B : Base) (cl : CallK) (n : Nat) (x0 : AV) (x1 : AV) (H : Heap) (Q : AV → Heap → Prop) : fnK B cl (ALoop n) a20 [x0, x1] H (tidyK n Q) =
  (wait (aop B E0 H (fun v1 H2 => wait (aop B E0 H2 (fun v3 H4 => ob (peekN B H4 3 (v1)) fun c5 => ob (peekN B H4 36 (v3)) fun c6 => cl 19 [.agg c5, .agg c6] H4 fun v7 H8 => pBool v7 fun b9 => bs (b9) (wait (aop B E0 H8 (fun v10 _ => ob (peek B H8 (v10)) fun c11 => pStr c11 fun s12 => wait (aop B E0 H8 (fun v13 _ => ob (peek B H8 (v13)) fun c14 => pStr c14 fun s15 => bs (sLess (s12) (s15) || (s12) == (s15)) (wait (aop B E0 H8 (fun v16 _ => ob (peek B H8 (v16)) fun c17 => pStr c17 fun s18 => wait (aop B E0 H8 (fun v19 _ => ob (peek B H8 (v19)) fun c20 => pStr c20 fun s21 => sbinK .geq (s18) (s21) fun v22 => tidyK n Q (v22) H8) (.fieldPtr 1 (.const (v1))))) (.fieldPtr 35 (.const (v3))))) (tidyK n Q (.bool false) H8)) (.fieldPtr 2 (.const (v1))))) (.fieldPtr 34 (.const (v3))))) (tidyK n Q (.bool false) H8)) (.box 36 (.const (x1))))) (.box 3 (.const (x0))))) := by kernel_rfl
theorem f20_in {B : Base} {x0 : AV} {x1 : AV} {H : Heap} {Q : AV → Heap → Prop} (h : ∀ n cl, n = H.length → cl = Cl B → LowH n H → LowL n [x0, x1] →
  (aop B E0 H (fun v1 H2 => (aop B E0 H2 (fun v3 H4 => ob (peekN B H4 3 (v1)) fun c5 => ob (peekN B H4 36 (v3)) fun c6 => cl 19 [.agg c5, .agg c6] H4 fun v7 H8 => pBool v7 fun b9 => bs (b9) ((aop B E0 H8 (fun v10 _ => ob (peek B H8 (v10)) fun c11 => pStr c11 fun s12 => (aop B E0 H8 (fun v13 _ => ob (peek B H8 (v13)) fun c14 => pStr c14 fun s15 => bs (sLess (s12) (s15) || (s12) == (s15)) ((aop B E0 H8 (fun v16 _ => ob (peek B H8 (v16)) fun c17 => pStr c17 fun s18 => (aop B E0 H8 (fun v19 _ => ob (peek B H8 (v19)) fun c20 => pStr c20 fun s21 => sbinK .geq (s18) (s21) fun v22 => tidyK n Q (v22) H8) (.fieldPtr 1 (.const (v1))))) (.fieldPtr 35 (.const (v3))))) (tidyK n Q (.bool false) H8)) (.fieldPtr 2 (.const (v1))))) (.fieldPtr 34 (.const (v3))))) (tidyK n Q (.bool false) H8)) (.box 36 (.const (x1))))) (.box 3 (.const (x0))))) : Cl B 20 [x0, x1] H Q := ACall.intro rfl fun h1 h2 => by
    have h3 := h _ _ rfl rfl h1 h2
    exact (Eq.mpr (f20_eq B (Cl B) H.length x0 x1 H Q) (by simp only [wait_eq] at h3 ⊢; exact h3))
end Go.Am
