/- What the functions of the seat do, from label to label. -/
import Derived.Test.YtdkgdkifeedcnaaAf
namespace Go.Am
open Go
set_option maxRecDepth 100000
def k43_0 (B : Base) (cl : CallK) (n : Nat) (Q : AV → Heap → Prop) : KQ := (AExit.blockK 0 (fnQ B a43 (tidyK n Q)))
def L43_0 (B : Base) (cl : CallK) (n : Nat) (x3 : AV) (x20 : AV) (x21 : Int) (x22 : Int) (H : Heap) (Q : AV → Heap → Prop) : Prop := awC B cl (ALoop n) c43_0 (ev 30 [(3, x3), (20, x20), (21, .int .i64 (x21)), (22, .int .i64 (x22))]) H (k43_0 B cl n Q)
theorem L43_0_eq (B : Base) (cl : CallK) (n : Nat) (x3 : AV) (x20 : AV) (x21 : Int) (x22 : Int) (H : Heap) (Q : AV → Heap → Prop) : awC B cl (ALoop n) b43_0 (keepEnv l43_0 (ev 30 [(3, x3), (20, x20), (21, .int .i64 (x21)), (22, .int .i64 (x22))])) H (AExit.thenK (fun e h => awC B cl (ALoop n) c43_0 e h (k43_0 B cl n Q)) (k43_0 B cl n Q)) =
  (bs (decide ((x22 : Int) < x21)) (wait (aop B E0 H (fun v11 _ => ob (peek B H (v11)) fun c12 => pLive c12 fun v13 => calleeK B E0 H [v13] (fun g16 z17 => cl g16 z17 H fun v14 H15 => pLive v14 fun v18 => L43_0 B cl n x3 x20 (x21) (IntKind.i64.wrap (x22 + 1)) H15 Q) (.val (.const (x3)))) (.indexPtr 1 (.const (x20)) (.const (.int .i64 (x22)))))) (tidyK n Q (.tuple []) H)) := by kernel_rfl
theorem L43_0_in {B : Base} {cl : CallK} {n : Nat} {x3 : AV} {x20 : AV} {x21 : Int} {x22 : Int} {H : Heap} {Q : AV → Heap → Prop} (hcl : CLe cl cl) (h :
  bs (decide ((x22 : Int) < x21)) ((aop B E0 H (fun v11 _ => ob (peek B H (v11)) fun c12 => pLive c12 fun v13 => calleeK B E0 H [v13] (fun g16 z17 => cl g16 z17 H fun v14 H15 => pLive v14 fun v18 => L43_0 B cl n x3 x20 (x21) (IntKind.i64.wrap (x22 + 1)) H15 Q) (.val (.const (x3)))) (.indexPtr 1 (.const (x20)) (.const (.int .i64 (x22)))))) (tidyK n Q (.tuple []) H)) : L43_0 B cl n x3 x20 x21 x22 H Q := ALoop.round2 (l := l43_0) (a := b43_0) hcl rfl (Eq.mpr (L43_0_eq B cl n x3 x20 x21 x22 H Q) (by simp only [wait_eq] at h ⊢; exact h))
theorem L43_0_tidy {B : Base} {cl : CallK} {n : Nat} {x3 : AV} {x20 : AV} {x21 : Int} {x22 : Int} {y3 : AV} {y20 : AV} {H H2 : Heap} {Q : AV → Heap → Prop} {f : Nat → Nat} (hC : Cln n f H H2) (h3 : RV f H2.length y3 x3) (h20 : RV f H2.length y20 x20) (h : L43_0 B cl n y3 y20 x21 x22 H2 Q) : L43_0 B cl n x3 x20 x21 x22 H Q :=
  ALoop.tidy2 (l := l43_0) (a := b43_0) (env2 := (ev 30 [(3, y3), (20, y20), (21, .int .i64 (x21)), (22, .int .i64 (x22))])) hC (RVP.rve ⟨rfl, h3, ⟨rfl, h20, ⟨rfl, rfl, ⟨rfl, rfl, trivial⟩⟩⟩⟩) h
theorem f43_eq (B : Base) (cl : CallK) (n : Nat) (x0 : AV) (x1 : AV) (x2 : Int) (x3 : AV) (H : Heap) (Q : AV → Heap → Prop) : fnK B cl (ALoop n) a43 [x0, x1, .int .i64 (x2), x3] H (tidyK n Q) =
  (ob (lenOf (x1)) fun k1 => ibinK .leq .i64 ((k1 : Int)) (x2) fun v2 => cl 25 [x0, v2] H fun v3 H4 => pLive v3 fun v5 => ob (lenOf (x1)) fun k6 => cl 29 [x0, .int .i64 ((k6 : Int))] H4 fun v7 H8 => pLive v7 fun v9 => ob (lenOf (x1)) fun k10 => L43_0 B cl n x3 x1 ((k10 : Int)) (0) H8 Q) := by kernel_rfl
theorem f43_in {B : Base} {x0 : AV} {x1 : AV} {x2 : Int} {x3 : AV} {H : Heap} {Q : AV → Heap → Prop} (h : ∀ n cl, n = H.length → cl = Cl B → LowH n H → LowL n [x0, x1, .int .i64 (x2), x3] →
  ob (lenOf (x1)) fun k1 => ibinK .leq .i64 ((k1 : Int)) (x2) fun v2 => cl 25 [x0, v2] H fun v3 H4 => pLive v3 fun v5 => ob (lenOf (x1)) fun k6 => cl 29 [x0, .int .i64 ((k6 : Int))] H4 fun v7 H8 => pLive v7 fun v9 => ob (lenOf (x1)) fun k10 => L43_0 B cl n x3 x1 ((k10 : Int)) (0) H8 Q) : Cl B 43 [x0, x1, .int .i64 (x2), x3] H Q := ACall.intro rfl fun h1 h2 => by
    have h3 := h _ _ rfl rfl h1 h2
    exact (Eq.mpr (f43_eq B (Cl B) H.length x0 x1 x2 x3 H Q) h3)
end Go.Am
