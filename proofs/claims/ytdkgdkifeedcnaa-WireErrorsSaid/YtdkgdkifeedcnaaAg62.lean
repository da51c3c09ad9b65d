/- What the functions of the seat do, from label to label. -/
import Derived.Test.YtdkgdkifeedcnaaAf
namespace Go.Am
open Go
set_option maxRecDepth 100000
def k62_0 (B : Base) (cl : CallK) (n : Nat) (Q : AV → Heap → Prop) : KQ := (AExit.thenK (fun e h => awC B cl (ALoop n) c62_1 e h (fnQ B a62 (tidyK n Q))) (fnQ B a62 (tidyK n Q)))
def k62_1 (B : Base) (cl : CallK) (n : Nat) (Q : AV → Heap → Prop) : KQ := (AExit.blockK 0 (k62_0 B cl n Q))
def L62_0 (B : Base) (cl : CallK) (n : Nat) (x0 : AV) (x1 : AV) (H : Heap) (Q : AV → Heap → Prop) : Prop := awC B cl (ALoop n) c62_0 (ev 26 [(0, x0), (1, x1)]) H (k62_1 B cl n Q)
def J62_1 (B : Base) (cl : CallK) (n : Nat) (x0 : AV) (x1 : AV) (H : Heap) (Q : AV → Heap → Prop) : Prop := awC B cl (ALoop n) c62_1 (ev 26 [(0, x0), (1, x1)]) H (fnQ B a62 (tidyK n Q))
theorem L62_0_eq (B : Base) (cl : CallK) (n : Nat) (x0 : AV) (x1 : AV) (H : Heap) (Q : AV → Heap → Prop) : awC B cl (ALoop n) b62_0 (keepEnv l62_0 (ev 26 [(0, x0), (1, x1)])) H (AExit.thenK (fun e h => awC B cl (ALoop n) c62_0 e h (k62_1 B cl n Q)) (k62_1 B cl n Q)) =
  (pInt .u64 (x1) fun n4 => bs (decide ((n4 : Int) ≥ 128)) (pInt .u64 (x1) fun n5 => ob (layParts [(.int .u8 0)] [(0, 1, .int .u8 (bitsOp .or IntKind.u8 (IntKind.u8.wrap (n5)) (128)))]) fun c6 => slK H 1 1 c6 fun v7 H8 => wait (aop B E0 H8 (fun v9 H10 => wait (aop B E0 H10 (fun v11 _ => L62_0 B cl n v9 v11 H10 Q) (.shf .shr .u64 (.const (x1)) (.const (.int .u64 7))))) (.append 1 1 (.const (x0)) (.const (v7))))) (J62_1 B cl n x0 x1 H Q)) := by kernel_rfl
theorem L62_0_in {B : Base} {cl : CallK} {n : Nat} {x0 : AV} {x1 : AV} {H : Heap} {Q : AV → Heap → Prop} (hcl : CLe cl cl) (h :
  pInt .u64 (x1) fun n4 => bs (decide ((n4 : Int) ≥ 128)) (pInt .u64 (x1) fun n5 => ob (layParts [(.int .u8 0)] [(0, 1, .int .u8 (bitsOp .or IntKind.u8 (IntKind.u8.wrap (n5)) (128)))]) fun c6 => slK H 1 1 c6 fun v7 H8 => (aop B E0 H8 (fun v9 H10 => (aop B E0 H10 (fun v11 _ => L62_0 B cl n v9 v11 H10 Q) (.shf .shr .u64 (.const (x1)) (.const (.int .u64 7))))) (.append 1 1 (.const (x0)) (.const (v7))))) (J62_1 B cl n x0 x1 H Q)) : L62_0 B cl n x0 x1 H Q := ALoop.round2 (l := l62_0) (a := b62_0) hcl rfl (Eq.mpr (L62_0_eq B cl n x0 x1 H Q) (by simp only [wait_eq] at h ⊢; exact h))
theorem L62_0_tidy {B : Base} {cl : CallK} {n : Nat} {x0 : AV} {x1 : AV} {y0 : AV} {y1 : AV} {H H2 : Heap} {Q : AV → Heap → Prop} {f : Nat → Nat} (hC : Cln n f H H2) (h0 : RV f H2.length y0 x0) (h1 : RV f H2.length y1 x1) (h : L62_0 B cl n y0 y1 H2 Q) : L62_0 B cl n x0 x1 H Q :=
  ALoop.tidy2 (l := l62_0) (a := b62_0) (env2 := (ev 26 [(0, y0), (1, y1)])) hC (RVP.rve ⟨rfl, h0, ⟨rfl, h1, trivial⟩⟩) h
theorem J62_1_eq (B : Base) (cl : CallK) (n : Nat) (x0 : AV) (x1 : AV) (H : Heap) (Q : AV → Heap → Prop) : awC B cl (ALoop n) b62_1 (keepEnv l62_1 (ev 26 [(0, x0), (1, x1)])) H (fnQ B a62 (tidyK n Q)) =
  (pInt .u64 (x1) fun n12 => ob (layParts [(.int .u8 0)] [(0, 1, .int .u8 (IntKind.u8.wrap (n12)))]) fun c13 => slK H 1 1 c13 fun v14 H15 => wait (aop B E0 H15 (fun v16 H17 => tidyK n Q (v16) H17) (.append 1 1 (.const (x0)) (.const (v14))))) := by kernel_rfl
theorem J62_1_in {B : Base} {cl : CallK} {n : Nat} {x0 : AV} {x1 : AV} {H : Heap} {Q : AV → Heap → Prop} (h :
  pInt .u64 (x1) fun n12 => ob (layParts [(.int .u8 0)] [(0, 1, .int .u8 (IntKind.u8.wrap (n12)))]) fun c13 => slK H 1 1 c13 fun v14 H15 => (aop B E0 H15 (fun v16 H17 => tidyK n Q (v16) H17) (.append 1 1 (.const (x0)) (.const (v14))))) : J62_1 B cl n x0 x1 H Q := (awC_keep (l := l62_1) (a := b62_1)).2 (Eq.mpr (J62_1_eq B cl n x0 x1 H Q) (by simp only [wait_eq] at h ⊢; exact h))
theorem f62_eq (B : Base) (cl : CallK) (n : Nat) (x0 : AV) (x1 : Int) (H : Heap) (Q : AV → Heap → Prop) : fnK B cl (ALoop n) a62 [x0, .int .u64 (x1)] H (tidyK n Q) =
  (ob (lenOf (x0)) fun k1 => ob (lenOf (x0)) fun k2 => wait (aop B E0 H (fun v3 _ => L62_0 B cl n v3 (.int .u64 (x1)) H Q) (.sliceL 1 (.const (x0)) none (some (.const (.int .i64 ((k1 : Int))))) (some (.const (.int .i64 ((k2 : Int)))))))) := by kernel_rfl
theorem f62_in {B : Base} {x0 : AV} {x1 : Int} {H : Heap} {Q : AV → Heap → Prop} (h : ∀ n cl, n = H.length → cl = Cl B → LowH n H → LowL n [x0, .int .u64 (x1)] →
  ob (lenOf (x0)) fun k1 => ob (lenOf (x0)) fun k2 => (aop B E0 H (fun v3 _ => L62_0 B cl n v3 (.int .u64 (x1)) H Q) (.sliceL 1 (.const (x0)) none (some (.const (.int .i64 ((k1 : Int))))) (some (.const (.int .i64 ((k2 : Int)))))))) : Cl B 62 [x0, .int .u64 (x1)] H Q := ACall.intro rfl fun h1 h2 => by
    have h3 := h _ _ rfl rfl h1 h2
    exact (Eq.mpr (f62_eq B (Cl B) H.length x0 x1 H Q) (by simp only [wait_eq] at h3 ⊢; exact h3))
end Go.Am
