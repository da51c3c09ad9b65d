/- What the functions of the seat do, from label to label. -/
import Derived.Test.YtcnmdodgjbfmdaaAf
namespace Go.Am
open Go
set_option maxRecDepth 100000
def k3_0 (B : Base) (cl : CallK) (n : Nat) (Q : AV → Heap → Prop) : KQ := (AExit.thenK (fun e h => awC B cl (ALoop n) c3_6 e h (fnQ B a3 (tidyK n Q))) (fnQ B a3 (tidyK n Q)))
def k3_1 (B : Base) (cl : CallK) (n : Nat) (Q : AV → Heap → Prop) : KQ := (AExit.blockK 0 (k3_0 B cl n Q))
def k3_2 (B : Base) (cl : CallK) (n : Nat) (Q : AV → Heap → Prop) : KQ := (AExit.thenK (fun e h => awC B cl (ALoop n) c3_5 e h (fnQ B a3 (tidyK n Q))) (fnQ B a3 (tidyK n Q)))
def k3_3 (B : Base) (cl : CallK) (n : Nat) (Q : AV → Heap → Prop) : KQ := (AExit.blockK 2 (k3_2 B cl n Q))
def k3_4 (B : Base) (cl : CallK) (n : Nat) (Q : AV → Heap → Prop) : KQ := (AExit.thenK (fun e h => awC B cl (ALoop n) c3_1 e h (k3_1 B cl n Q)) (k3_1 B cl n Q))
def k3_5 (B : Base) (cl : CallK) (n : Nat) (Q : AV → Heap → Prop) : KQ := (AExit.thenK (fun e h => awC B cl (ALoop n) c3_4 e h (k3_3 B cl n Q)) (k3_3 B cl n Q))
def k3_6 (B : Base) (cl : CallK) (n : Nat) (Q : AV → Heap → Prop) : KQ := (AExit.thenK (fun e h => awC B cl (ALoop n) (.ops [⟨(some 40), none, (.op (.mov (.tmp 10)))⟩, ⟨(some 41), none, (.op (.ibin .add .i64 (.tmp 40) (.const (.int .i64 1))))⟩, ⟨(some 10), none, (.op (.mov (.tmp 41)))⟩]) e h (k3_5 B cl n Q)) (k3_5 B cl n Q))
def k3_7 (B : Base) (cl : CallK) (n : Nat) (Q : AV → Heap → Prop) : KQ := (AExit.blockK 3 (k3_6 B cl n Q))
def J3_11 (B : Base) (cl : CallK) (n : Nat) (x0 : AV) (x1 : Bool) (H : Heap) (Q : AV → Heap → Prop) : Prop := awC B cl (ALoop n) c3_11 (ev 61 [(0, x0), (1, .bool x1)]) H (fnQ B a3 (tidyK n Q))
def J3_10 (B : Base) (cl : CallK) (n : Nat) (x0 : AV) (x1 : Bool) (x5 : AV) (H : Heap) (Q : AV → Heap → Prop) : Prop := awC B cl (ALoop n) c3_10 (ev 61 [(0, x0), (1, .bool x1), (5, x5)]) H (fnQ B a3 (tidyK n Q))
def J3_9 (B : Base) (cl : CallK) (n : Nat) (x0 : AV) (x1 : Bool) (x5 : AV) (x6 : AV) (H : Heap) (Q : AV → Heap → Prop) : Prop := awC B cl (ALoop n) c3_9 (ev 61 [(0, x0), (1, .bool x1), (5, x5), (6, x6)]) H (fnQ B a3 (tidyK n Q))
def J3_8 (B : Base) (cl : CallK) (n : Nat) (x0 : AV) (x1 : Bool) (x5 : AV) (x6 : AV) (x7 : AV) (H : Heap) (Q : AV → Heap → Prop) : Prop := awC B cl (ALoop n) c3_8 (ev 61 [(0, x0), (1, .bool x1), (5, x5), (6, x6), (7, x7)]) H (fnQ B a3 (tidyK n Q))
def J3_7 (B : Base) (cl : CallK) (n : Nat) (x0 : AV) (x5 : AV) (x6 : AV) (x7 : AV) (x8 : AV) (H : Heap) (Q : AV → Heap → Prop) : Prop := awC B cl (ALoop n) c3_7 (ev 61 [(0, x0), (5, x5), (6, x6), (7, x7), (8, x8)]) H (fnQ B a3 (tidyK n Q))
def L3_1 (B : Base) (cl : CallK) (n : Nat) (x0 : AV) (x5 : AV) (x6 : AV) (x7 : AV) (x9 : Int) (H : Heap) (Q : AV → Heap → Prop) : Prop := awC B cl (ALoop n) c3_1 (ev 61 [(0, x0), (5, x5), (6, x6), (7, x7), (9, .int .i64 (x9))]) H (k3_1 B cl n Q)
def J3_0 (B : Base) (cl : CallK) (n : Nat) (x0 : AV) (x5 : AV) (x6 : AV) (x7 : AV) (x9 : Int) (H : Heap) (Q : AV → Heap → Prop) : Prop := awC B cl (ALoop n) c3_0 (ev 61 [(0, x0), (5, x5), (6, x6), (7, x7), (9, .int .i64 (x9))]) H (k3_4 B cl n Q)
def J3_6 (B : Base) (cl : CallK) (n : Nat) (x0 : AV) (x5 : AV) (x6 : AV) (H : Heap) (Q : AV → Heap → Prop) : Prop := awC B cl (ALoop n) c3_6 (ev 61 [(0, x0), (5, x5), (6, x6)]) H (fnQ B a3 (tidyK n Q))
def L3_4 (B : Base) (cl : CallK) (n : Nat) (x0 : AV) (x5 : AV) (x6 : AV) (x10 : Int) (H : Heap) (Q : AV → Heap → Prop) : Prop := awC B cl (ALoop n) c3_4 (ev 61 [(0, x0), (5, x5), (6, x6), (10, .int .i64 (x10))]) H (k3_3 B cl n Q)
def J3_3 (B : Base) (cl : CallK) (n : Nat) (x0 : AV) (x5 : AV) (x6 : AV) (x10 : Int) (H : Heap) (Q : AV → Heap → Prop) : Prop := awC B cl (ALoop n) c3_3 (ev 61 [(0, x0), (5, x5), (6, x6), (10, .int .i64 (x10))]) H (k3_5 B cl n Q)
def J3_5 (B : Base) (cl : CallK) (n : Nat) (x5 : AV) (H : Heap) (Q : AV → Heap → Prop) : Prop := awC B cl (ALoop n) c3_5 (ev 61 [(5, x5)]) H (fnQ B a3 (tidyK n Q))
def J3_2 (B : Base) (cl : CallK) (n : Nat) (x0 : AV) (x5 : AV) (x6 : AV) (x10 : Int) (x11 : AV) (H : Heap) (Q : AV → Heap → Prop) : Prop := awC B cl (ALoop n) c3_2 (ev 61 [(0, x0), (5, x5), (6, x6), (10, .int .i64 (x10)), (11, x11)]) H (k3_7 B cl n Q)
theorem J3_11_eq (B : Base) (cl : CallK) (n : Nat) (x0 : AV) (x1 : Bool) (H : Heap) (Q : AV → Heap → Prop) : awC B cl (ALoop n) b3_11 (keepEnv l3_11 (ev 61 [(0, x0), (1, .bool x1)])) H (fnQ B a3 (tidyK n Q)) =
  (cl 9 [] H fun v1 H2 => tyK .bool v1 fun v3 => J3_10 B cl n x0 x1 v3 H2 Q) := by kernel_rfl
theorem J3_11_in {B : Base} {cl : CallK} {n : Nat} {x0 : AV} {x1 : Bool} {H : Heap} {Q : AV → Heap → Prop} (h :
  cl 9 [] H fun v1 H2 => tyK .bool v1 fun v3 => J3_10 B cl n x0 x1 v3 H2 Q) : J3_11 B cl n x0 x1 H Q := (awC_keep (l := l3_11) (a := b3_11)).2 (Eq.mpr (J3_11_eq B cl n x0 x1 H Q) h)
theorem J3_10_eq (B : Base) (cl : CallK) (n : Nat) (x0 : AV) (x1 : Bool) (x5 : AV) (H : Heap) (Q : AV → Heap → Prop) : awC B cl (ALoop n) b3_10 (keepEnv l3_10 (ev 61 [(0, x0), (1, .bool x1), (5, x5)])) H (fnQ B a3 (tidyK n Q)) =
  (cl 10 [x0] H fun v4 H5 => pLive v4 fun v6 => J3_9 B cl n x0 x1 x5 v6 H5 Q) := by kernel_rfl
theorem J3_10_in {B : Base} {cl : CallK} {n : Nat} {x0 : AV} {x1 : Bool} {x5 : AV} {H : Heap} {Q : AV → Heap → Prop} (h :
  cl 10 [x0] H fun v4 H5 => pLive v4 fun v6 => J3_9 B cl n x0 x1 x5 v6 H5 Q) : J3_10 B cl n x0 x1 x5 H Q := (awC_keep (l := l3_10) (a := b3_10)).2 (Eq.mpr (J3_10_eq B cl n x0 x1 x5 H Q) h)
theorem J3_9_eq (B : Base) (cl : CallK) (n : Nat) (x0 : AV) (x1 : Bool) (x5 : AV) (x6 : AV) (H : Heap) (Q : AV → Heap → Prop) : awC B cl (ALoop n) b3_9 (keepEnv l3_9 (ev 61 [(0, x0), (1, .bool x1), (5, x5), (6, x6)])) H (fnQ B a3 (tidyK n Q)) =
  (cl 11 [x6, .bool x1] H fun v7 H8 => pLive v7 fun v9 => J3_8 B cl n x0 x1 x5 x6 v9 H8 Q) := by kernel_rfl
theorem J3_9_in {B : Base} {cl : CallK} {n : Nat} {x0 : AV} {x1 : Bool} {x5 : AV} {x6 : AV} {H : Heap} {Q : AV → Heap → Prop} (h :
  cl 11 [x6, .bool x1] H fun v7 H8 => pLive v7 fun v9 => J3_8 B cl n x0 x1 x5 x6 v9 H8 Q) : J3_9 B cl n x0 x1 x5 x6 H Q := (awC_keep (l := l3_9) (a := b3_9)).2 (Eq.mpr (J3_9_eq B cl n x0 x1 x5 x6 H Q) h)
theorem J3_8_eq (B : Base) (cl : CallK) (n : Nat) (x0 : AV) (x1 : Bool) (x5 : AV) (x6 : AV) (x7 : AV) (H : Heap) (Q : AV → Heap → Prop) : awC B cl (ALoop n) b3_8 (keepEnv l3_8 (ev 61 [(0, x0), (1, .bool x1), (5, x5), (6, x6), (7, x7)])) H (fnQ B a3 (tidyK n Q)) =
  (cl 10 [x0] H fun v10 H11 => pLive v10 fun v12 => cl 13 [v12, .bool x1] H11 fun v13 H14 => pLive v13 fun v15 => cl 12 [x7, v15] H14 fun v16 H17 => tyK .bool v16 fun v18 => J3_7 B cl n x0 x5 x6 x7 v18 H17 Q) := by kernel_rfl
theorem J3_8_in {B : Base} {cl : CallK} {n : Nat} {x0 : AV} {x1 : Bool} {x5 : AV} {x6 : AV} {x7 : AV} {H : Heap} {Q : AV → Heap → Prop} (h :
  cl 10 [x0] H fun v10 H11 => pLive v10 fun v12 => cl 13 [v12, .bool x1] H11 fun v13 H14 => pLive v13 fun v15 => cl 12 [x7, v15] H14 fun v16 H17 => tyK .bool v16 fun v18 => J3_7 B cl n x0 x5 x6 x7 v18 H17 Q) : J3_8 B cl n x0 x1 x5 x6 x7 H Q := (awC_keep (l := l3_8) (a := b3_8)).2 (Eq.mpr (J3_8_eq B cl n x0 x1 x5 x6 x7 H Q) h)
theorem J3_7_eq (B : Base) (cl : CallK) (n : Nat) (x0 : AV) (x5 : AV) (x6 : AV) (x7 : AV) (x8 : AV) (H : Heap) (Q : AV → Heap → Prop) : awC B cl (ALoop n) b3_7 (keepEnv l3_7 (ev 61 [(0, x0), (5, x5), (6, x6), (7, x7), (8, x8)])) H (fnQ B a3 (tidyK n Q)) =
  (pBool (x8) fun b19 => bs (b19) (L3_1 B cl n x0 x5 x6 x7 (0) H Q) (tidyK n Q (.bool false) H)) := by kernel_rfl
theorem J3_7_in {B : Base} {cl : CallK} {n : Nat} {x0 : AV} {x5 : AV} {x6 : AV} {x7 : AV} {x8 : AV} {H : Heap} {Q : AV → Heap → Prop} (h :
  pBool (x8) fun b19 => bs (b19) (L3_1 B cl n x0 x5 x6 x7 (0) H Q) (tidyK n Q (.bool false) H)) : J3_7 B cl n x0 x5 x6 x7 x8 H Q := (awC_keep (l := l3_7) (a := b3_7)).2 (Eq.mpr (J3_7_eq B cl n x0 x5 x6 x7 x8 H Q) h)
theorem L3_1_eq (B : Base) (cl : CallK) (n : Nat) (x0 : AV) (x5 : AV) (x6 : AV) (x7 : AV) (x9 : Int) (H : Heap) (Q : AV → Heap → Prop) : awC B cl (ALoop n) b3_1 (keepEnv l3_1 (ev 61 [(0, x0), (5, x5), (6, x6), (7, x7), (9, .int .i64 (x9))])) H (AExit.thenK (fun e h => awC B cl (ALoop n) c3_1 e h (k3_1 B cl n Q)) (k3_1 B cl n Q)) =
  (ob (lenOf (x7)) fun k20 => bs (decide ((x9 : Int) < (k20 : Int))) (J3_0 B cl n x0 x5 x6 x7 (x9) H Q) (J3_6 B cl n x0 x5 x6 H Q)) := by kernel_rfl
theorem L3_1_in {B : Base} {cl : CallK} {n : Nat} {x0 : AV} {x5 : AV} {x6 : AV} {x7 : AV} {x9 : Int} {H : Heap} {Q : AV → Heap → Prop} (hcl : CLe cl cl) (h :
  ob (lenOf (x7)) fun k20 => bs (decide ((x9 : Int) < (k20 : Int))) (J3_0 B cl n x0 x5 x6 x7 (x9) H Q) (J3_6 B cl n x0 x5 x6 H Q)) : L3_1 B cl n x0 x5 x6 x7 x9 H Q := ALoop.round2 (l := l3_1) (a := b3_1) hcl rfl (Eq.mpr (L3_1_eq B cl n x0 x5 x6 x7 x9 H Q) h)
theorem L3_1_tidy {B : Base} {cl : CallK} {n : Nat} {x0 : AV} {x5 : AV} {x6 : AV} {x7 : AV} {x9 : Int} {y0 : AV} {y5 : AV} {y6 : AV} {y7 : AV} {H H2 : Heap} {Q : AV → Heap → Prop} {f : Nat → Nat} (hC : Cln n f H H2) (h0 : RV f H2.length y0 x0) (h5 : RV f H2.length y5 x5) (h6 : RV f H2.length y6 x6) (h7 : RV f H2.length y7 x7) (h : L3_1 B cl n y0 y5 y6 y7 x9 H2 Q) : L3_1 B cl n x0 x5 x6 x7 x9 H Q :=
  ALoop.tidy2 (l := l3_1) (a := b3_1) (env2 := (ev 61 [(0, y0), (5, y5), (6, y6), (7, y7), (9, .int .i64 (x9))])) hC (RVP.rve ⟨rfl, h0, ⟨rfl, h5, ⟨rfl, h6, ⟨rfl, h7, ⟨rfl, rfl, trivial⟩⟩⟩⟩⟩) h
theorem J3_0_eq (B : Base) (cl : CallK) (n : Nat) (x0 : AV) (x5 : AV) (x6 : AV) (x7 : AV) (x9 : Int) (H : Heap) (Q : AV → Heap → Prop) : awC B cl (ALoop n) b3_0 (keepEnv l3_0 (ev 61 [(0, x0), (5, x5), (6, x6), (7, x7), (9, .int .i64 (x9))])) H (k3_4 B cl n Q) =
  (ob (layParts [(.str []), (.str []), (.bool false), (.int .i64 0)] [(0, 1, (.str [63]))]) fun c21 => wait (aop B E0 H (fun v22 _ => wait (aop B E0 H (fun v23 H24 => L3_1 B cl n x0 x5 x6 x7 (IntKind.i64.wrap (x9 + 1)) H24 Q) (.st 4 (.const (v22)) (.const (.agg c21))))) (.indexPtr 4 (.const (x7)) (.const (.int .i64 (x9)))))) := by kernel_rfl
theorem J3_0_in {B : Base} {cl : CallK} {n : Nat} {x0 : AV} {x5 : AV} {x6 : AV} {x7 : AV} {x9 : Int} {H : Heap} {Q : AV → Heap → Prop} (h :
  ob (layParts [(.str []), (.str []), (.bool false), (.int .i64 0)] [(0, 1, (.str [63]))]) fun c21 => (aop B E0 H (fun v22 _ => (aop B E0 H (fun v23 H24 => L3_1 B cl n x0 x5 x6 x7 (IntKind.i64.wrap (x9 + 1)) H24 Q) (.st 4 (.const (v22)) (.const (.agg c21))))) (.indexPtr 4 (.const (x7)) (.const (.int .i64 (x9)))))) : J3_0 B cl n x0 x5 x6 x7 x9 H Q := (awC_keep (l := l3_0) (a := b3_0)).2 (Eq.mpr (J3_0_eq B cl n x0 x5 x6 x7 x9 H Q) (by simp only [wait_eq] at h ⊢; exact h))
theorem J3_6_eq (B : Base) (cl : CallK) (n : Nat) (x0 : AV) (x5 : AV) (x6 : AV) (H : Heap) (Q : AV → Heap → Prop) : awC B cl (ALoop n) b3_6 (keepEnv l3_6 (ev 61 [(0, x0), (5, x5), (6, x6)])) H (fnQ B a3 (tidyK n Q)) =
  (L3_4 B cl n x0 x5 x6 (0) H Q) := by kernel_rfl
theorem J3_6_in {B : Base} {cl : CallK} {n : Nat} {x0 : AV} {x5 : AV} {x6 : AV} {H : Heap} {Q : AV → Heap → Prop} (h :
  L3_4 B cl n x0 x5 x6 (0) H Q) : J3_6 B cl n x0 x5 x6 H Q := (awC_keep (l := l3_6) (a := b3_6)).2 (Eq.mpr (J3_6_eq B cl n x0 x5 x6 H Q) h)
theorem L3_4_eq (B : Base) (cl : CallK) (n : Nat) (x0 : AV) (x5 : AV) (x6 : AV) (x10 : Int) (H : Heap) (Q : AV → Heap → Prop) : awC B cl (ALoop n) b3_4 (keepEnv l3_4 (ev 61 [(0, x0), (5, x5), (6, x6), (10, .int .i64 (x10))])) H (AExit.thenK (fun e h => awC B cl (ALoop n) c3_4 e h (k3_3 B cl n Q)) (k3_3 B cl n Q)) =
  (ob (lenOf (x6)) fun k25 => bs (decide ((x10 : Int) < (k25 : Int))) (J3_3 B cl n x0 x5 x6 (x10) H Q) (J3_5 B cl n x5 H Q)) := by kernel_rfl
theorem L3_4_in {B : Base} {cl : CallK} {n : Nat} {x0 : AV} {x5 : AV} {x6 : AV} {x10 : Int} {H : Heap} {Q : AV → Heap → Prop} (hcl : CLe cl cl) (h :
  ob (lenOf (x6)) fun k25 => bs (decide ((x10 : Int) < (k25 : Int))) (J3_3 B cl n x0 x5 x6 (x10) H Q) (J3_5 B cl n x5 H Q)) : L3_4 B cl n x0 x5 x6 x10 H Q := ALoop.round2 (l := l3_4) (a := b3_4) hcl rfl (Eq.mpr (L3_4_eq B cl n x0 x5 x6 x10 H Q) h)
theorem L3_4_tidy {B : Base} {cl : CallK} {n : Nat} {x0 : AV} {x5 : AV} {x6 : AV} {x10 : Int} {y0 : AV} {y5 : AV} {y6 : AV} {H H2 : Heap} {Q : AV → Heap → Prop} {f : Nat → Nat} (hC : Cln n f H H2) (h0 : RV f H2.length y0 x0) (h5 : RV f H2.length y5 x5) (h6 : RV f H2.length y6 x6) (h : L3_4 B cl n y0 y5 y6 x10 H2 Q) : L3_4 B cl n x0 x5 x6 x10 H Q :=
  ALoop.tidy2 (l := l3_4) (a := b3_4) (env2 := (ev 61 [(0, y0), (5, y5), (6, y6), (10, .int .i64 (x10))])) hC (RVP.rve ⟨rfl, h0, ⟨rfl, h5, ⟨rfl, h6, ⟨rfl, rfl, trivial⟩⟩⟩⟩) h
theorem J3_3_eq (B : Base) (cl : CallK) (n : Nat) (x0 : AV) (x5 : AV) (x6 : AV) (x10 : Int) (H : Heap) (Q : AV → Heap → Prop) : awC B cl (ALoop n) b3_3 (keepEnv l3_3 (ev 61 [(0, x0), (5, x5), (6, x6), (10, .int .i64 (x10))])) H (k3_5 B cl n Q) =
  (wait (aop B E0 H (fun v26 _ => ob (peek B H (v26)) fun c27 => pLive c27 fun v28 => wait (aop B E0 H (fun v29 _ => ob (peek B H (v29)) fun c30 => pLive c30 fun v31 => wait (aop B E0 H (fun v32 _ => ob (peek B H (v32)) fun c33 => pLive c33 fun v34 => ob (lenOf (v34)) fun k35 => wait (aop B E0 H (fun v36 _ => cl 12 [v28, v36] H fun v37 H38 => tyK .bool v37 fun v39 => J3_2 B cl n x0 x5 x6 (x10) v39 H38 Q) (.sliceL 4 (.const (v31)) none (some (.const (.int .i64 (minInts ((k35 : Int)) [60])))) none))) (.indexPtr 1 (.const (x0)) (.const (.int .i64 (x10)))))) (.indexPtr 1 (.const (x0)) (.const (.int .i64 (x10)))))) (.indexPtr 1 (.const (x6)) (.const (.int .i64 (x10)))))) := by kernel_rfl
theorem J3_3_in {B : Base} {cl : CallK} {n : Nat} {x0 : AV} {x5 : AV} {x6 : AV} {x10 : Int} {H : Heap} {Q : AV → Heap → Prop} (h :
  (aop B E0 H (fun v26 _ => ob (peek B H (v26)) fun c27 => pLive c27 fun v28 => (aop B E0 H (fun v29 _ => ob (peek B H (v29)) fun c30 => pLive c30 fun v31 => (aop B E0 H (fun v32 _ => ob (peek B H (v32)) fun c33 => pLive c33 fun v34 => ob (lenOf (v34)) fun k35 => (aop B E0 H (fun v36 _ => cl 12 [v28, v36] H fun v37 H38 => tyK .bool v37 fun v39 => J3_2 B cl n x0 x5 x6 (x10) v39 H38 Q) (.sliceL 4 (.const (v31)) none (some (.const (.int .i64 (minInts ((k35 : Int)) [60])))) none))) (.indexPtr 1 (.const (x0)) (.const (.int .i64 (x10)))))) (.indexPtr 1 (.const (x0)) (.const (.int .i64 (x10)))))) (.indexPtr 1 (.const (x6)) (.const (.int .i64 (x10)))))) : J3_3 B cl n x0 x5 x6 x10 H Q := (awC_keep (l := l3_3) (a := b3_3)).2 (Eq.mpr (J3_3_eq B cl n x0 x5 x6 x10 H Q) (by simp only [wait_eq] at h ⊢; exact h))
theorem J3_5_eq (B : Base) (cl : CallK) (n : Nat) (x5 : AV) (H : Heap) (Q : AV → Heap → Prop) : awC B cl (ALoop n) b3_5 (keepEnv l3_5 (ev 61 [(5, x5)])) H (fnQ B a3 (tidyK n Q)) =
  (tidyK n Q (x5) H) := by kernel_rfl
theorem J3_5_in {B : Base} {cl : CallK} {n : Nat} {x5 : AV} {H : Heap} {Q : AV → Heap → Prop} (h :
  tidyK n Q (x5) H) : J3_5 B cl n x5 H Q := (awC_keep (l := l3_5) (a := b3_5)).2 (Eq.mpr (J3_5_eq B cl n x5 H Q) h)
theorem J3_2_eq (B : Base) (cl : CallK) (n : Nat) (x0 : AV) (x5 : AV) (x6 : AV) (x10 : Int) (x11 : AV) (H : Heap) (Q : AV → Heap → Prop) : awC B cl (ALoop n) b3_2 (keepEnv l3_2 (ev 61 [(0, x0), (5, x5), (6, x6), (10, .int .i64 (x10)), (11, x11)])) H (k3_7 B cl n Q) =
  (pBool (x11) fun b40 => bs (b40) (L3_4 B cl n x0 x5 x6 (IntKind.i64.wrap (x10 + 1)) H Q) (tidyK n Q (.bool false) H)) := by kernel_rfl
theorem J3_2_in {B : Base} {cl : CallK} {n : Nat} {x0 : AV} {x5 : AV} {x6 : AV} {x10 : Int} {x11 : AV} {H : Heap} {Q : AV → Heap → Prop} (h :
  pBool (x11) fun b40 => bs (b40) (L3_4 B cl n x0 x5 x6 (IntKind.i64.wrap (x10 + 1)) H Q) (tidyK n Q (.bool false) H)) : J3_2 B cl n x0 x5 x6 x10 x11 H Q := (awC_keep (l := l3_2) (a := b3_2)).2 (Eq.mpr (J3_2_eq B cl n x0 x5 x6 x10 x11 H Q) h)
theorem f3_eq (B : Base) (cl : CallK) (n : Nat) (x0 : AV) (x1 : Bool) (H : Heap) (Q : AV → Heap → Prop) : fnK B cl (ALoop n) a3 [x0, .bool x1] H (tidyK n Q) =
  (J3_11 B cl n x0 x1 H Q) := by kernel_rfl
theorem f3_in {B : Base} {x0 : AV} {x1 : Bool} {H : Heap} {Q : AV → Heap → Prop} (h : ∀ n cl, n = H.length → cl = Cl B → LowH n H → LowL n [x0, .bool x1] →
  J3_11 B cl n x0 x1 H Q) : Cl B 3 [x0, .bool x1] H Q := ACall.intro rfl fun h1 h2 => by
    have h3 := h _ _ rfl rfl h1 h2
    exact (Eq.mpr (f3_eq B (Cl B) H.length x0 x1 H Q) h3)
end Go.Am
