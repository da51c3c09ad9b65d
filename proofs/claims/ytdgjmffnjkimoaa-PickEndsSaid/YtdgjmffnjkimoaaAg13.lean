/- What the functions of the seat do, from label to label. -/
import Derived.Test.YtdgjmffnjkimoaaAf
namespace Go.Am
open Go
set_option maxRecDepth 100000
def k13_0 (B : Base) (cl : CallK) (n : Nat) (Q : AV → Heap → Prop) : KQ := (AExit.thenK (fun e h => awC B cl (ALoop n) c13_4 e h (fnQ B a13 (tidyK n Q))) (fnQ B a13 (tidyK n Q)))
def k13_1 (B : Base) (cl : CallK) (n : Nat) (Q : AV → Heap → Prop) : KQ := (AExit.blockK 0 (k13_0 B cl n Q))
def k13_2 (B : Base) (cl : CallK) (n : Nat) (Q : AV → Heap → Prop) : KQ := (AExit.thenK (fun e h => awC B cl (ALoop n) c13_3 e h (k13_1 B cl n Q)) (k13_1 B cl n Q))
def k13_3 (B : Base) (cl : CallK) (n : Nat) (Q : AV → Heap → Prop) : KQ := (AExit.thenK (fun e h => awC B cl (ALoop n) c13_1 e h (k13_2 B cl n Q)) (k13_2 B cl n Q))
def k13_4 (B : Base) (cl : CallK) (n : Nat) (Q : AV → Heap → Prop) : KQ := (AExit.blockK 1 (k13_3 B cl n Q))
def L13_3 (B : Base) (cl : CallK) (n : Nat) (x0 : AV) (x3 : Int) (x4 : Int) (H : Heap) (Q : AV → Heap → Prop) : Prop := awC B cl (ALoop n) c13_3 (ev 40 [(0, x0), (3, .int .i64 (x3)), (4, .int .i64 (x4))]) H (k13_1 B cl n Q)
def J13_2 (B : Base) (cl : CallK) (n : Nat) (x0 : AV) (x3 : Int) (x4 : Int) (H : Heap) (Q : AV → Heap → Prop) : Prop := awC B cl (ALoop n) c13_2 (ev 40 [(0, x0), (3, .int .i64 (x3)), (4, .int .i64 (x4))]) H (k13_2 B cl n Q)
def J13_4 (B : Base) (cl : CallK) (n : Nat) (x3 : Int) (H : Heap) (Q : AV → Heap → Prop) : Prop := awC B cl (ALoop n) c13_4 (ev 40 [(3, .int .i64 (x3))]) H (fnQ B a13 (tidyK n Q))
def J13_0 (B : Base) (cl : CallK) (n : Nat) (x0 : AV) (x3 : Int) (x4 : Int) (x24 : AV) (H : Heap) (Q : AV → Heap → Prop) : Prop := awC B cl (ALoop n) c13_0 (ev 40 [(0, x0), (3, .int .i64 (x3)), (4, .int .i64 (x4)), (24, x24)]) H (k13_4 B cl n Q)
def J13_1 (B : Base) (cl : CallK) (n : Nat) (x0 : AV) (x3 : Int) (x4 : Int) (H : Heap) (Q : AV → Heap → Prop) : Prop := awC B cl (ALoop n) c13_1 (ev 40 [(0, x0), (3, .int .i64 (x3)), (4, .int .i64 (x4))]) H (k13_2 B cl n Q)
theorem L13_3_eq (B : Base) (cl : CallK) (n : Nat) (x0 : AV) (x3 : Int) (x4 : Int) (H : Heap) (Q : AV → Heap → Prop) : awC B cl (ALoop n) b13_3 (keepEnv l13_3 (ev 40 [(0, x0), (3, .int .i64 (x3)), (4, .int .i64 (x4))])) H (AExit.thenK (fun e h => awC B cl (ALoop n) c13_3 e h (k13_1 B cl n Q)) (k13_1 B cl n Q)) =
  (ob (lenOf (x0)) fun k1 => bs (decide ((x4 : Int) < (k1 : Int))) (J13_2 B cl n x0 (x3) (x4) H Q) (J13_4 B cl n (x3) H Q)) := by kernel_rfl
theorem L13_3_in {B : Base} {cl : CallK} {n : Nat} {x0 : AV} {x3 : Int} {x4 : Int} {H : Heap} {Q : AV → Heap → Prop} (hcl : CLe cl cl) (h :
  ob (lenOf (x0)) fun k1 => bs (decide ((x4 : Int) < (k1 : Int))) (J13_2 B cl n x0 (x3) (x4) H Q) (J13_4 B cl n (x3) H Q)) : L13_3 B cl n x0 x3 x4 H Q := ALoop.round2 (l := l13_3) (a := b13_3) hcl rfl (Eq.mpr (L13_3_eq B cl n x0 x3 x4 H Q) h)
theorem L13_3_tidy {B : Base} {cl : CallK} {n : Nat} {x0 : AV} {x3 : Int} {x4 : Int} {y0 : AV} {H H2 : Heap} {Q : AV → Heap → Prop} {f : Nat → Nat} (hC : Cln n f H H2) (h0 : RV f H2.length y0 x0) (h : L13_3 B cl n y0 x3 x4 H2 Q) : L13_3 B cl n x0 x3 x4 H Q :=
  ALoop.tidy2 (l := l13_3) (a := b13_3) (env2 := (ev 40 [(0, y0), (3, .int .i64 (x3)), (4, .int .i64 (x4))])) hC (RVP.rve ⟨rfl, h0, ⟨rfl, rfl, ⟨rfl, rfl, trivial⟩⟩⟩) h
theorem J13_2_eq (B : Base) (cl : CallK) (n : Nat) (x0 : AV) (x3 : Int) (x4 : Int) (H : Heap) (Q : AV → Heap → Prop) : awC B cl (ALoop n) b13_2 (keepEnv l13_2 (ev 40 [(0, x0), (3, .int .i64 (x3)), (4, .int .i64 (x4))])) H (k13_2 B cl n Q) =
  (wait (aop B E0 H (fun v2 _ => wait (aop B E0 H (fun v3 _ => ob (peek B H (v3)) fun c4 => pInt .i64 c4 fun n5 => bs (decide ((n5 : Int) ≥ 0)) (wait (aop B E0 H (fun v6 _ => wait (aop B E0 H (fun v7 _ => ob (peek B H (v7)) fun c8 => pInt .i64 c8 fun n9 => ibinK .leq .i64 (n9) (3) fun v10 => J13_0 B cl n x0 (x3) (x4) v10 H Q) (.fieldPtr 0 (.const (v6))))) (.indexPtr 36 (.const (x0)) (.const (.int .i64 (x4)))))) (J13_0 B cl n x0 (x3) (x4) (.bool false) H Q)) (.fieldPtr 0 (.const (v2))))) (.indexPtr 36 (.const (x0)) (.const (.int .i64 (x4)))))) := by kernel_rfl
theorem J13_2_in {B : Base} {cl : CallK} {n : Nat} {x0 : AV} {x3 : Int} {x4 : Int} {H : Heap} {Q : AV → Heap → Prop} (h :
  (aop B E0 H (fun v2 _ => (aop B E0 H (fun v3 _ => ob (peek B H (v3)) fun c4 => pInt .i64 c4 fun n5 => bs (decide ((n5 : Int) ≥ 0)) ((aop B E0 H (fun v6 _ => (aop B E0 H (fun v7 _ => ob (peek B H (v7)) fun c8 => pInt .i64 c8 fun n9 => ibinK .leq .i64 (n9) (3) fun v10 => J13_0 B cl n x0 (x3) (x4) v10 H Q) (.fieldPtr 0 (.const (v6))))) (.indexPtr 36 (.const (x0)) (.const (.int .i64 (x4)))))) (J13_0 B cl n x0 (x3) (x4) (.bool false) H Q)) (.fieldPtr 0 (.const (v2))))) (.indexPtr 36 (.const (x0)) (.const (.int .i64 (x4)))))) : J13_2 B cl n x0 x3 x4 H Q := (awC_keep (l := l13_2) (a := b13_2)).2 (Eq.mpr (J13_2_eq B cl n x0 x3 x4 H Q) (by simp only [wait_eq] at h ⊢; exact h))
theorem J13_4_eq (B : Base) (cl : CallK) (n : Nat) (x3 : Int) (H : Heap) (Q : AV → Heap → Prop) : awC B cl (ALoop n) b13_4 (keepEnv l13_4 (ev 40 [(3, .int .i64 (x3))])) H (fnQ B a13 (tidyK n Q)) =
  (tidyK n Q (.int .i64 (x3)) H) := by kernel_rfl
theorem J13_4_in {B : Base} {cl : CallK} {n : Nat} {x3 : Int} {H : Heap} {Q : AV → Heap → Prop} (h :
  tidyK n Q (.int .i64 (x3)) H) : J13_4 B cl n x3 H Q := (awC_keep (l := l13_4) (a := b13_4)).2 (Eq.mpr (J13_4_eq B cl n x3 H Q) h)
theorem J13_0_eq (B : Base) (cl : CallK) (n : Nat) (x0 : AV) (x3 : Int) (x4 : Int) (x24 : AV) (H : Heap) (Q : AV → Heap → Prop) : awC B cl (ALoop n) b13_0 (keepEnv l13_0 (ev 40 [(0, x0), (3, .int .i64 (x3)), (4, .int .i64 (x4)), (24, x24)])) H (k13_4 B cl n Q) =
  (pBool (x24) fun b11 => (if b11 = true then wait (aop B E0 H (fun v12 _ => wait (aop B E0 H (fun v13 _ => ob (peek B H (v13)) fun c14 => pInt .i64 c14 fun n15 => wait (aop B E0 H (fun v16 _ => wait (aop B E0 H (fun v17 _ => ob (peek B H (v17)) fun c18 => pInt .i64 c18 fun n19 => J13_1 B cl n x0 (IntKind.i64.wrap (x3 + IntKind.i64.wrap (n15 * IntKind.i64.wrap (3 - n19)))) (x4) H Q) (.fieldPtr 0 (.const (v16))))) (.indexPtr 36 (.const (x0)) (.const (.int .i64 (x4)))))) (.fieldPtr 1 (.const (v12))))) (.indexPtr 36 (.const (x0)) (.const (.int .i64 (x4))))) else J13_1 B cl n x0 (x3) (x4) H Q)) := by kernel_rfl
theorem J13_0_in {B : Base} {cl : CallK} {n : Nat} {x0 : AV} {x3 : Int} {x4 : Int} {x24 : AV} {H : Heap} {Q : AV → Heap → Prop} (h :
  pBool (x24) fun b11 => (if b11 = true then (aop B E0 H (fun v12 _ => (aop B E0 H (fun v13 _ => ob (peek B H (v13)) fun c14 => pInt .i64 c14 fun n15 => (aop B E0 H (fun v16 _ => (aop B E0 H (fun v17 _ => ob (peek B H (v17)) fun c18 => pInt .i64 c18 fun n19 => J13_1 B cl n x0 (IntKind.i64.wrap (x3 + IntKind.i64.wrap (n15 * IntKind.i64.wrap (3 - n19)))) (x4) H Q) (.fieldPtr 0 (.const (v16))))) (.indexPtr 36 (.const (x0)) (.const (.int .i64 (x4)))))) (.fieldPtr 1 (.const (v12))))) (.indexPtr 36 (.const (x0)) (.const (.int .i64 (x4))))) else J13_1 B cl n x0 (x3) (x4) H Q)) : J13_0 B cl n x0 x3 x4 x24 H Q := (awC_keep (l := l13_0) (a := b13_0)).2 (Eq.mpr (J13_0_eq B cl n x0 x3 x4 x24 H Q) (by simp only [wait_eq] at h ⊢; exact h))
theorem J13_1_eq (B : Base) (cl : CallK) (n : Nat) (x0 : AV) (x3 : Int) (x4 : Int) (H : Heap) (Q : AV → Heap → Prop) : awC B cl (ALoop n) b13_1 (keepEnv l13_1 (ev 40 [(0, x0), (3, .int .i64 (x3)), (4, .int .i64 (x4))])) H (k13_2 B cl n Q) =
  (L13_3 B cl n x0 (x3) (IntKind.i64.wrap (x4 + 1)) H Q) := by kernel_rfl
theorem J13_1_in {B : Base} {cl : CallK} {n : Nat} {x0 : AV} {x3 : Int} {x4 : Int} {H : Heap} {Q : AV → Heap → Prop} (h :
  L13_3 B cl n x0 (x3) (IntKind.i64.wrap (x4 + 1)) H Q) : J13_1 B cl n x0 x3 x4 H Q := (awC_keep (l := l13_1) (a := b13_1)).2 (Eq.mpr (J13_1_eq B cl n x0 x3 x4 H Q) h)
theorem f13_eq (B : Base) (cl : CallK) (n : Nat) (x0 : AV) (H : Heap) (Q : AV → Heap → Prop) : fnK B cl (ALoop n) a13 [x0] H (tidyK n Q) =
  (L13_3 B cl n x0 (0) (0) H Q) := by kernel_rfl
theorem f13_in {B : Base} {x0 : AV} {H : Heap} {Q : AV → Heap → Prop} (h : ∀ n cl, n = H.length → cl = Cl B → LowH n H → LowL n [x0] →
  L13_3 B cl n x0 (0) (0) H Q) : Cl B 13 [x0] H Q := ACall.intro rfl fun h1 h2 => by
    have h3 := h _ _ rfl rfl h1 h2
    exact (Eq.mpr (f13_eq B (Cl B) H.length x0 H Q) h3)
end Go.Am
