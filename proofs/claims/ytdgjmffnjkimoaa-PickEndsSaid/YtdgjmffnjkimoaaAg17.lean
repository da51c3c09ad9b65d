/- What the functions of the seat do, from label to label. -/
import Derived.Test.YtdgjmffnjkimoaaAf
namespace Go.Am
open Go
set_option maxRecDepth 100000
def k17_0 (B : Base) (cl : CallK) (n : Nat) (Q : AV → Heap → Prop) : KQ := (AExit.thenK (fun e h => awC B cl (ALoop n) c17_2 e h (fnQ B a17 (tidyK n Q))) (fnQ B a17 (tidyK n Q)))
def k17_1 (B : Base) (cl : CallK) (n : Nat) (Q : AV → Heap → Prop) : KQ := (AExit.blockK 0 (k17_0 B cl n Q))
def k17_2 (B : Base) (cl : CallK) (n : Nat) (Q : AV → Heap → Prop) : KQ := (AExit.thenK (fun e h => awC B cl (ALoop n) c17_1 e h (k17_1 B cl n Q)) (k17_1 B cl n Q))
def L17_1 (B : Base) (cl : CallK) (n : Nat) (x0 : AV) (x1 : Int) (x5 : Int) (x6 : Int) (H : Heap) (Q : AV → Heap → Prop) : Prop := awC B cl (ALoop n) c17_1 (ev 23 [(0, x0), (1, .int .i64 (x1)), (5, .int .i64 (x5)), (6, .int .i64 (x6))]) H (k17_1 B cl n Q)
def J17_0 (B : Base) (cl : CallK) (n : Nat) (x0 : AV) (x1 : Int) (x5 : Int) (x6 : Int) (H : Heap) (Q : AV → Heap → Prop) : Prop := awC B cl (ALoop n) c17_0 (ev 23 [(0, x0), (1, .int .i64 (x1)), (5, .int .i64 (x5)), (6, .int .i64 (x6))]) H (k17_2 B cl n Q)
def J17_2 (B : Base) (cl : CallK) (n : Nat) (x5 : Int) (H : Heap) (Q : AV → Heap → Prop) : Prop := awC B cl (ALoop n) c17_2 (ev 23 [(5, .int .i64 (x5))]) H (fnQ B a17 (tidyK n Q))
theorem L17_1_eq (B : Base) (cl : CallK) (n : Nat) (x0 : AV) (x1 : Int) (x5 : Int) (x6 : Int) (H : Heap) (Q : AV → Heap → Prop) : awC B cl (ALoop n) b17_1 (keepEnv l17_1 (ev 23 [(0, x0), (1, .int .i64 (x1)), (5, .int .i64 (x5)), (6, .int .i64 (x6))])) H (AExit.thenK (fun e h => awC B cl (ALoop n) c17_1 e h (k17_1 B cl n Q)) (k17_1 B cl n Q)) =
  (ob (lenOf (x0)) fun k1 => bs (decide ((x6 : Int) < (k1 : Int))) (wait (aop B E0 H (fun v2 _ => wait (aop B E0 H (fun v3 _ => ob (peek B H (v3)) fun c4 => pInt .i64 c4 fun n5 => bs ((n5 : Int) == x1) (J17_0 B cl n x0 (x1) (IntKind.i64.wrap (x5 + 1)) (x6) H Q) (J17_0 B cl n x0 (x1) (x5) (x6) H Q)) (.fieldPtr 0 (.const (v2))))) (.indexPtr 36 (.const (x0)) (.const (.int .i64 (x6)))))) (J17_2 B cl n (x5) H Q)) := by kernel_rfl
theorem L17_1_in {B : Base} {cl : CallK} {n : Nat} {x0 : AV} {x1 : Int} {x5 : Int} {x6 : Int} {H : Heap} {Q : AV → Heap → Prop} (hcl : CLe cl cl) (h :
  ob (lenOf (x0)) fun k1 => bs (decide ((x6 : Int) < (k1 : Int))) ((aop B E0 H (fun v2 _ => (aop B E0 H (fun v3 _ => ob (peek B H (v3)) fun c4 => pInt .i64 c4 fun n5 => bs ((n5 : Int) == x1) (J17_0 B cl n x0 (x1) (IntKind.i64.wrap (x5 + 1)) (x6) H Q) (J17_0 B cl n x0 (x1) (x5) (x6) H Q)) (.fieldPtr 0 (.const (v2))))) (.indexPtr 36 (.const (x0)) (.const (.int .i64 (x6)))))) (J17_2 B cl n (x5) H Q)) : L17_1 B cl n x0 x1 x5 x6 H Q := ALoop.round2 (l := l17_1) (a := b17_1) hcl rfl (Eq.mpr (L17_1_eq B cl n x0 x1 x5 x6 H Q) (by simp only [wait_eq] at h ⊢; exact h))
theorem L17_1_tidy {B : Base} {cl : CallK} {n : Nat} {x0 : AV} {x1 : Int} {x5 : Int} {x6 : Int} {y0 : AV} {H H2 : Heap} {Q : AV → Heap → Prop} {f : Nat → Nat} (hC : Cln n f H H2) (h0 : RV f H2.length y0 x0) (h : L17_1 B cl n y0 x1 x5 x6 H2 Q) : L17_1 B cl n x0 x1 x5 x6 H Q :=
  ALoop.tidy2 (l := l17_1) (a := b17_1) (env2 := (ev 23 [(0, y0), (1, .int .i64 (x1)), (5, .int .i64 (x5)), (6, .int .i64 (x6))])) hC (RVP.rve ⟨rfl, h0, ⟨rfl, rfl, ⟨rfl, rfl, ⟨rfl, rfl, trivial⟩⟩⟩⟩) h
theorem J17_0_eq (B : Base) (cl : CallK) (n : Nat) (x0 : AV) (x1 : Int) (x5 : Int) (x6 : Int) (H : Heap) (Q : AV → Heap → Prop) : awC B cl (ALoop n) b17_0 (keepEnv l17_0 (ev 23 [(0, x0), (1, .int .i64 (x1)), (5, .int .i64 (x5)), (6, .int .i64 (x6))])) H (k17_2 B cl n Q) =
  (L17_1 B cl n x0 (x1) (x5) (IntKind.i64.wrap (x6 + 1)) H Q) := by kernel_rfl
theorem J17_0_in {B : Base} {cl : CallK} {n : Nat} {x0 : AV} {x1 : Int} {x5 : Int} {x6 : Int} {H : Heap} {Q : AV → Heap → Prop} (h :
  L17_1 B cl n x0 (x1) (x5) (IntKind.i64.wrap (x6 + 1)) H Q) : J17_0 B cl n x0 x1 x5 x6 H Q := (awC_keep (l := l17_0) (a := b17_0)).2 (Eq.mpr (J17_0_eq B cl n x0 x1 x5 x6 H Q) h)
theorem J17_2_eq (B : Base) (cl : CallK) (n : Nat) (x5 : Int) (H : Heap) (Q : AV → Heap → Prop) : awC B cl (ALoop n) b17_2 (keepEnv l17_2 (ev 23 [(5, .int .i64 (x5))])) H (fnQ B a17 (tidyK n Q)) =
  (tidyK n Q (.int .i64 (x5)) H) := by kernel_rfl
theorem J17_2_in {B : Base} {cl : CallK} {n : Nat} {x5 : Int} {H : Heap} {Q : AV → Heap → Prop} (h :
  tidyK n Q (.int .i64 (x5)) H) : J17_2 B cl n x5 H Q := (awC_keep (l := l17_2) (a := b17_2)).2 (Eq.mpr (J17_2_eq B cl n x5 H Q) h)
theorem f17_eq (B : Base) (cl : CallK) (n : Nat) (x0 : AV) (x1 : Int) (H : Heap) (Q : AV → Heap → Prop) : fnK B cl (ALoop n) a17 [x0, .int .i64 (x1)] H (tidyK n Q) =
  (L17_1 B cl n x0 (x1) (0) (0) H Q) := by kernel_rfl
theorem f17_in {B : Base} {x0 : AV} {x1 : Int} {H : Heap} {Q : AV → Heap → Prop} (h : ∀ n cl, n = H.length → cl = Cl B → LowH n H → LowL n [x0, .int .i64 (x1)] →
  L17_1 B cl n x0 (x1) (0) (0) H Q) : Cl B 17 [x0, .int .i64 (x1)] H Q := ACall.intro rfl fun h1 h2 => by
    have h3 := h _ _ rfl rfl h1 h2
    exact (Eq.mpr (f17_eq B (Cl B) H.length x0 x1 H Q) h3)
end Go.Am
