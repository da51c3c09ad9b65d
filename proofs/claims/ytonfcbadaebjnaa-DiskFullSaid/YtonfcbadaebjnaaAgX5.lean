/- What the functions of the seat do, from label to label. -/
import Derived.Test.YtonfcbadaebjnaaAf
namespace Go.Am
open Go
set_option maxRecDepth 100000
def k52_0 (B : Base) (cl : CallK) (n : Nat) (Q : AV → Heap → Prop) : KQ := (AExit.thenK (fun e h => awC B cl (ALoop n) c52_5 e h (fnQ B a52 (tidyK n Q))) (fnQ B a52 (tidyK n Q)))
def k52_1 (B : Base) (cl : CallK) (n : Nat) (Q : AV → Heap → Prop) : KQ := (AExit.blockK 0 (k52_0 B cl n Q))
def k52_2 (B : Base) (cl : CallK) (n : Nat) (Q : AV → Heap → Prop) : KQ := (AExit.thenK (fun e h => awC B cl (ALoop n) c52_4 e h (k52_1 B cl n Q)) (k52_1 B cl n Q))
def k52_3 (B : Base) (cl : CallK) (n : Nat) (Q : AV → Heap → Prop) : KQ := (AExit.thenK (fun e h => awC B cl (ALoop n) c52_2 e h (k52_2 B cl n Q)) (k52_2 B cl n Q))
def k52_4 (B : Base) (cl : CallK) (n : Nat) (Q : AV → Heap → Prop) : KQ := (AExit.blockK 1 (k52_3 B cl n Q))
def J52_8 (B : Base) (cl : CallK) (n : Nat) (x0 : AV) (x1 : AV) (H : Heap) (Q : AV → Heap → Prop) : Prop := awC B cl (ALoop n) c52_8 (ev 42 [(0, x0), (1, x1)]) H (fnQ B a52 (tidyK n Q))
def J52_7 (B : Base) (cl : CallK) (n : Nat) (x0 : AV) (x1 : AV) (x5 : Int) (H : Heap) (Q : AV → Heap → Prop) : Prop := awC B cl (ALoop n) c52_7 (ev 42 [(0, x0), (1, x1), (5, .int .i64 (x5))]) H (fnQ B a52 (tidyK n Q))
def J52_6 (B : Base) (cl : CallK) (n : Nat) (x0 : AV) (x1 : AV) (x5 : Int) (H : Heap) (Q : AV → Heap → Prop) : Prop := awC B cl (ALoop n) c52_6 (ev 42 [(0, x0), (1, x1), (5, .int .i64 (x5))]) H (fnQ B a52 (tidyK n Q))
def L52_4 (B : Base) (cl : CallK) (n : Nat) (x0 : AV) (x1 : AV) (x5 : Int) (x6 : Int) (H : Heap) (Q : AV → Heap → Prop) : Prop := awC B cl (ALoop n) c52_4 (ev 42 [(0, x0), (1, x1), (5, .int .i64 (x5)), (6, .int .i64 (x6))]) H (k52_1 B cl n Q)
def J52_3 (B : Base) (cl : CallK) (n : Nat) (x0 : AV) (x1 : AV) (x5 : Int) (x6 : Int) (H : Heap) (Q : AV → Heap → Prop) : Prop := awC B cl (ALoop n) c52_3 (ev 42 [(0, x0), (1, x1), (5, .int .i64 (x5)), (6, .int .i64 (x6))]) H (k52_2 B cl n Q)
def J52_5 (B : Base) (cl : CallK) (n : Nat) (x0 : AV) (x5 : Int) (H : Heap) (Q : AV → Heap → Prop) : Prop := awC B cl (ALoop n) c52_5 (ev 42 [(0, x0), (5, .int .i64 (x5))]) H (fnQ B a52 (tidyK n Q))
def J52_1 (B : Base) (cl : CallK) (n : Nat) (x0 : AV) (x1 : AV) (x5 : Int) (x6 : Int) (x7 : AV) (H : Heap) (Q : AV → Heap → Prop) : Prop := awC B cl (ALoop n) c52_1 (ev 42 [(0, x0), (1, x1), (5, .int .i64 (x5)), (6, .int .i64 (x6)), (7, x7)]) H (k52_4 B cl n Q)
def J52_0 (B : Base) (cl : CallK) (n : Nat) (x0 : AV) (x1 : AV) (x5 : Int) (x6 : Int) (x7 : AV) (x29 : AV) (H : Heap) (Q : AV → Heap → Prop) : Prop := awC B cl (ALoop n) c52_0 (ev 42 [(0, x0), (1, x1), (5, .int .i64 (x5)), (6, .int .i64 (x6)), (7, x7), (29, x29)]) H (k52_4 B cl n Q)
def J52_2 (B : Base) (cl : CallK) (n : Nat) (x0 : AV) (x1 : AV) (x5 : Int) (x6 : Int) (H : Heap) (Q : AV → Heap → Prop) : Prop := awC B cl (ALoop n) c52_2 (ev 42 [(0, x0), (1, x1), (5, .int .i64 (x5)), (6, .int .i64 (x6))]) H (k52_2 B cl n Q)
theorem J52_8_eq (B : Base) (cl : CallK) (n : Nat) (x0 : AV) (x1 : AV) (H : Heap) (Q : AV → Heap → Prop) : awC B cl (ALoop n) b52_8 (keepEnv l52_8 (ev 42 [(0, x0), (1, x1)])) H (fnQ B a52 (tidyK n Q)) =
  (cl 63 [x0, x1] H fun v1 H2 => pInt .i64 v1 fun n3 => J52_7 B cl n x0 x1 (n3) H2 Q) := by kernel_rfl
theorem J52_8_in {B : Base} {cl : CallK} {n : Nat} {x0 : AV} {x1 : AV} {H : Heap} {Q : AV → Heap → Prop} (h :
  cl 63 [x0, x1] H fun v1 H2 => pInt .i64 v1 fun n3 => J52_7 B cl n x0 x1 (n3) H2 Q) : J52_8 B cl n x0 x1 H Q := (awC_keep (l := l52_8) (a := b52_8)).2 (Eq.mpr (J52_8_eq B cl n x0 x1 H Q) h)
theorem J52_7_eq (B : Base) (cl : CallK) (n : Nat) (x0 : AV) (x1 : AV) (x5 : Int) (H : Heap) (Q : AV → Heap → Prop) : awC B cl (ALoop n) b52_7 (keepEnv l52_7 (ev 42 [(0, x0), (1, x1), (5, .int .i64 (x5))])) H (fnQ B a52 (tidyK n Q)) =
  (bs ((x5 : Int) == (-1)) (tidyK n Q (x0) H) (J52_6 B cl n x0 x1 (x5) H Q)) := by kernel_rfl
theorem J52_7_in {B : Base} {cl : CallK} {n : Nat} {x0 : AV} {x1 : AV} {x5 : Int} {H : Heap} {Q : AV → Heap → Prop} (h :
  bs ((x5 : Int) == (-1)) (tidyK n Q (x0) H) (J52_6 B cl n x0 x1 (x5) H Q)) : J52_7 B cl n x0 x1 x5 H Q := (awC_keep (l := l52_7) (a := b52_7)).2 (Eq.mpr (J52_7_eq B cl n x0 x1 x5 H Q) h)
theorem J52_6_eq (B : Base) (cl : CallK) (n : Nat) (x0 : AV) (x1 : AV) (x5 : Int) (H : Heap) (Q : AV → Heap → Prop) : awC B cl (ALoop n) b52_6 (keepEnv l52_6 (ev 42 [(0, x0), (1, x1), (5, .int .i64 (x5))])) H (fnQ B a52 (tidyK n Q)) =
  (L52_4 B cl n x0 x1 (x5) (IntKind.i64.wrap (x5 + 1)) H Q) := by kernel_rfl
theorem J52_6_in {B : Base} {cl : CallK} {n : Nat} {x0 : AV} {x1 : AV} {x5 : Int} {H : Heap} {Q : AV → Heap → Prop} (h :
  L52_4 B cl n x0 x1 (x5) (IntKind.i64.wrap (x5 + 1)) H Q) : J52_6 B cl n x0 x1 x5 H Q := (awC_keep (l := l52_6) (a := b52_6)).2 (Eq.mpr (J52_6_eq B cl n x0 x1 x5 H Q) h)
theorem L52_4_eq (B : Base) (cl : CallK) (n : Nat) (x0 : AV) (x1 : AV) (x5 : Int) (x6 : Int) (H : Heap) (Q : AV → Heap → Prop) : awC B cl (ALoop n) b52_4 (keepEnv l52_4 (ev 42 [(0, x0), (1, x1), (5, .int .i64 (x5)), (6, .int .i64 (x6))])) H (AExit.thenK (fun e h => awC B cl (ALoop n) c52_4 e h (k52_1 B cl n Q)) (k52_1 B cl n Q)) =
  (ob (lenOf (x0)) fun k4 => bs (decide ((x6 : Int) < (k4 : Int))) (J52_3 B cl n x0 x1 (x5) (x6) H Q) (J52_5 B cl n x0 (x5) H Q)) := by kernel_rfl
theorem L52_4_in {B : Base} {cl : CallK} {n : Nat} {x0 : AV} {x1 : AV} {x5 : Int} {x6 : Int} {H : Heap} {Q : AV → Heap → Prop} (hcl : CLe cl cl) (h :
  ob (lenOf (x0)) fun k4 => bs (decide ((x6 : Int) < (k4 : Int))) (J52_3 B cl n x0 x1 (x5) (x6) H Q) (J52_5 B cl n x0 (x5) H Q)) : L52_4 B cl n x0 x1 x5 x6 H Q := ALoop.round2 (l := l52_4) (a := b52_4) hcl rfl (Eq.mpr (L52_4_eq B cl n x0 x1 x5 x6 H Q) h)
theorem L52_4_tidy {B : Base} {cl : CallK} {n : Nat} {x0 : AV} {x1 : AV} {x5 : Int} {x6 : Int} {y0 : AV} {y1 : AV} {H H2 : Heap} {Q : AV → Heap → Prop} {f : Nat → Nat} (hC : Cln n f H H2) (h0 : RV f H2.length y0 x0) (h1 : RV f H2.length y1 x1) (h : L52_4 B cl n y0 y1 x5 x6 H2 Q) : L52_4 B cl n x0 x1 x5 x6 H Q :=
  ALoop.tidy2 (l := l52_4) (a := b52_4) (env2 := (ev 42 [(0, y0), (1, y1), (5, .int .i64 (x5)), (6, .int .i64 (x6))])) hC (RVP.rve ⟨rfl, h0, ⟨rfl, h1, ⟨rfl, rfl, ⟨rfl, rfl, trivial⟩⟩⟩⟩) h
theorem J52_3_eq (B : Base) (cl : CallK) (n : Nat) (x0 : AV) (x1 : AV) (x5 : Int) (x6 : Int) (H : Heap) (Q : AV → Heap → Prop) : awC B cl (ALoop n) b52_3 (keepEnv l52_3 (ev 42 [(0, x0), (1, x1), (5, .int .i64 (x5)), (6, .int .i64 (x6))])) H (k52_2 B cl n Q) =
  (wait (aop B E0 H (fun v5 _ => ob (peekN B H 2 (v5)) fun c6 => wait (aop B E0 H (fun v7 H8 => wait (aop B E0 H8 (fun v9 H10 => J52_1 B cl n x0 x1 (x5) (x6) v7 H10 Q) (.st 2 (.const (v7)) (.const (.agg c6))))) (.alloc [(.ptr none), (.int .i64 0)]))) (.indexPtr 2 (.const (x0)) (.const (.int .i64 (x6)))))) := by kernel_rfl
theorem J52_3_in {B : Base} {cl : CallK} {n : Nat} {x0 : AV} {x1 : AV} {x5 : Int} {x6 : Int} {H : Heap} {Q : AV → Heap → Prop} (h :
  (aop B E0 H (fun v5 _ => ob (peekN B H 2 (v5)) fun c6 => (aop B E0 H (fun v7 H8 => (aop B E0 H8 (fun v9 H10 => J52_1 B cl n x0 x1 (x5) (x6) v7 H10 Q) (.st 2 (.const (v7)) (.const (.agg c6))))) (.alloc [(.ptr none), (.int .i64 0)]))) (.indexPtr 2 (.const (x0)) (.const (.int .i64 (x6)))))) : J52_3 B cl n x0 x1 x5 x6 H Q := (awC_keep (l := l52_3) (a := b52_3)).2 (Eq.mpr (J52_3_eq B cl n x0 x1 x5 x6 H Q) (by simp only [wait_eq] at h ⊢; exact h))
theorem J52_5_eq (B : Base) (cl : CallK) (n : Nat) (x0 : AV) (x5 : Int) (H : Heap) (Q : AV → Heap → Prop) : awC B cl (ALoop n) b52_5 (keepEnv l52_5 (ev 42 [(0, x0), (5, .int .i64 (x5))])) H (fnQ B a52 (tidyK n Q)) =
  (wait (aop B E0 H (fun v11 _ => wait (aop B E0 H (fun v12 H13 => wait (aop B E0 H13 (fun v14 _ => tidyK n Q (v14) H13) (.sliceL 2 (.const (x0)) none (some (.const (.int .i64 (x5)))) none))) (.clearL 2 [(.ptr none), (.int .i64 0)] (.const (v11))))) (.sliceL 2 (.const (x0)) (some (.const (.int .i64 (x5)))) none none))) := by kernel_rfl
theorem J52_5_in {B : Base} {cl : CallK} {n : Nat} {x0 : AV} {x5 : Int} {H : Heap} {Q : AV → Heap → Prop} (h :
  (aop B E0 H (fun v11 _ => (aop B E0 H (fun v12 H13 => (aop B E0 H13 (fun v14 _ => tidyK n Q (v14) H13) (.sliceL 2 (.const (x0)) none (some (.const (.int .i64 (x5)))) none))) (.clearL 2 [(.ptr none), (.int .i64 0)] (.const (v11))))) (.sliceL 2 (.const (x0)) (some (.const (.int .i64 (x5)))) none none))) : J52_5 B cl n x0 x5 H Q := (awC_keep (l := l52_5) (a := b52_5)).2 (Eq.mpr (J52_5_eq B cl n x0 x5 H Q) (by simp only [wait_eq] at h ⊢; exact h))
theorem J52_1_eq (B : Base) (cl : CallK) (n : Nat) (x0 : AV) (x1 : AV) (x5 : Int) (x6 : Int) (x7 : AV) (H : Heap) (Q : AV → Heap → Prop) : awC B cl (ALoop n) b52_1 (keepEnv l52_1 (ev 42 [(0, x0), (1, x1), (5, .int .i64 (x5)), (6, .int .i64 (x6)), (7, x7)])) H (k52_4 B cl n Q) =
  (ob (peekN B H 2 (x7)) fun c15 => calleeK B E0 H [.agg c15] (fun g18 z19 => cl g18 z19 H fun v16 H17 => tyK .bool v16 fun v20 => wait (aop B E0 H17 (fun v21 _ => J52_0 B cl n x0 x1 (x5) (x6) x7 v21 H17 Q) (.not (.const (v20))))) (.val (.const (x1)))) := by kernel_rfl
theorem J52_1_in {B : Base} {cl : CallK} {n : Nat} {x0 : AV} {x1 : AV} {x5 : Int} {x6 : Int} {x7 : AV} {H : Heap} {Q : AV → Heap → Prop} (h :
  ob (peekN B H 2 (x7)) fun c15 => calleeK B E0 H [.agg c15] (fun g18 z19 => cl g18 z19 H fun v16 H17 => tyK .bool v16 fun v20 => (aop B E0 H17 (fun v21 _ => J52_0 B cl n x0 x1 (x5) (x6) x7 v21 H17 Q) (.not (.const (v20))))) (.val (.const (x1)))) : J52_1 B cl n x0 x1 x5 x6 x7 H Q := (awC_keep (l := l52_1) (a := b52_1)).2 (Eq.mpr (J52_1_eq B cl n x0 x1 x5 x6 x7 H Q) (by simp only [wait_eq] at h ⊢; exact h))
theorem J52_0_eq (B : Base) (cl : CallK) (n : Nat) (x0 : AV) (x1 : AV) (x5 : Int) (x6 : Int) (x7 : AV) (x29 : AV) (H : Heap) (Q : AV → Heap → Prop) : awC B cl (ALoop n) b52_0 (keepEnv l52_0 (ev 42 [(0, x0), (1, x1), (5, .int .i64 (x5)), (6, .int .i64 (x6)), (7, x7), (29, x29)])) H (k52_4 B cl n Q) =
  (pBool (x29) fun b22 => (if b22 = true then ob (peekN B H 2 (x7)) fun c23 => wait (aop B E0 H (fun v24 _ => wait (aop B E0 H (fun v25 H26 => J52_2 B cl n x0 x1 (IntKind.i64.wrap (x5 + 1)) (x6) H26 Q) (.st 2 (.const (v24)) (.const (.agg c23))))) (.indexPtr 2 (.const (x0)) (.const (.int .i64 (x5))))) else J52_2 B cl n x0 x1 (x5) (x6) H Q)) := by kernel_rfl
theorem J52_0_in {B : Base} {cl : CallK} {n : Nat} {x0 : AV} {x1 : AV} {x5 : Int} {x6 : Int} {x7 : AV} {x29 : AV} {H : Heap} {Q : AV → Heap → Prop} (h :
  pBool (x29) fun b22 => (if b22 = true then ob (peekN B H 2 (x7)) fun c23 => (aop B E0 H (fun v24 _ => (aop B E0 H (fun v25 H26 => J52_2 B cl n x0 x1 (IntKind.i64.wrap (x5 + 1)) (x6) H26 Q) (.st 2 (.const (v24)) (.const (.agg c23))))) (.indexPtr 2 (.const (x0)) (.const (.int .i64 (x5))))) else J52_2 B cl n x0 x1 (x5) (x6) H Q)) : J52_0 B cl n x0 x1 x5 x6 x7 x29 H Q := (awC_keep (l := l52_0) (a := b52_0)).2 (Eq.mpr (J52_0_eq B cl n x0 x1 x5 x6 x7 x29 H Q) (by simp only [wait_eq] at h ⊢; exact h))
theorem J52_2_eq (B : Base) (cl : CallK) (n : Nat) (x0 : AV) (x1 : AV) (x5 : Int) (x6 : Int) (H : Heap) (Q : AV → Heap → Prop) : awC B cl (ALoop n) b52_2 (keepEnv l52_2 (ev 42 [(0, x0), (1, x1), (5, .int .i64 (x5)), (6, .int .i64 (x6))])) H (k52_2 B cl n Q) =
  (L52_4 B cl n x0 x1 (x5) (IntKind.i64.wrap (x6 + 1)) H Q) := by kernel_rfl
theorem J52_2_in {B : Base} {cl : CallK} {n : Nat} {x0 : AV} {x1 : AV} {x5 : Int} {x6 : Int} {H : Heap} {Q : AV → Heap → Prop} (h :
  L52_4 B cl n x0 x1 (x5) (IntKind.i64.wrap (x6 + 1)) H Q) : J52_2 B cl n x0 x1 x5 x6 H Q := (awC_keep (l := l52_2) (a := b52_2)).2 (Eq.mpr (J52_2_eq B cl n x0 x1 x5 x6 H Q) h)
theorem f52_eq (B : Base) (cl : CallK) (n : Nat) (x0 : AV) (x1 : AV) (H : Heap) (Q : AV → Heap → Prop) : fnK B cl (ALoop n) a52 [x0, x1] H (tidyK n Q) =
  (J52_8 B cl n x0 x1 H Q) := by kernel_rfl
theorem f52_in {B : Base} {x0 : AV} {x1 : AV} {H : Heap} {Q : AV → Heap → Prop} (h : ∀ n cl, n = H.length → cl = Cl B → LowH n H → LowL n [x0, x1] →
  J52_8 B cl n x0 x1 H Q) : Cl B 52 [x0, x1] H Q := ACall.intro rfl fun h1 h2 => by
    have h3 := h _ _ rfl rfl h1 h2
    exact (Eq.mpr (f52_eq B (Cl B) H.length x0 x1 H Q) h3)
theorem f53_eq (B : Base) (cl : CallK) (n : Nat) (x0 : AV) (x1 : AV) (H : Heap) (Q : AV → Heap → Prop) : fnK B cl (ALoop n) a53 [x0, x1] H (tidyK n Q) =
  (wait (aop B E0 H (fun v1 H2 => wait (aop B E0 H2 (fun v3 _ => ob (peek B H2 (v3)) fun c4 => pLive c4 fun v5 => ob (peek B H2 (x1)) fun c6 => pLive c6 fun v7 => wait (aop B E0 H2 (fun v8 _ => tidyK n Q (v8) H2) (.peq false (.const (v5)) (.const (v7))))) (.fieldPtr 0 (.const (v1))))) (.box 2 (.const (x0))))) := by kernel_rfl
theorem f53_in {B : Base} {x0 : AV} {x1 : AV} {H : Heap} {Q : AV → Heap → Prop} (h : ∀ n cl, n = H.length → cl = Cl B → LowH n H → LowL n [x0, x1] →
  (aop B E0 H (fun v1 H2 => (aop B E0 H2 (fun v3 _ => ob (peek B H2 (v3)) fun c4 => pLive c4 fun v5 => ob (peek B H2 (x1)) fun c6 => pLive c6 fun v7 => (aop B E0 H2 (fun v8 _ => tidyK n Q (v8) H2) (.peq false (.const (v5)) (.const (v7))))) (.fieldPtr 0 (.const (v1))))) (.box 2 (.const (x0))))) : Cl B 53 [x0, x1] H Q := ACall.intro rfl fun h1 h2 => by
    have h3 := h _ _ rfl rfl h1 h2
    exact (Eq.mpr (f53_eq B (Cl B) H.length x0 x1 H Q) (by simp only [wait_eq] at h3 ⊢; exact h3))
def k63_0 (B : Base) (cl : CallK) (n : Nat) (Q : AV → Heap → Prop) : KQ := (AExit.thenK (fun e h => awC B cl (ALoop n) c63_1 e h (fnQ B a63 (tidyK n Q))) (fnQ B a63 (tidyK n Q)))
def k63_1 (B : Base) (cl : CallK) (n : Nat) (Q : AV → Heap → Prop) : KQ := (AExit.blockK 0 (k63_0 B cl n Q))
def L63_0 (B : Base) (cl : CallK) (n : Nat) (x0 : AV) (x1 : AV) (x7 : Int) (x8 : Int) (H : Heap) (Q : AV → Heap → Prop) : Prop := awC B cl (ALoop n) c63_0 (ev 19 [(0, x0), (1, x1), (7, .int .i64 (x7)), (8, .int .i64 (x8))]) H (k63_1 B cl n Q)
def J63_1 (B : Base) (cl : CallK) (n : Nat)  (H : Heap) (Q : AV → Heap → Prop) : Prop := awC B cl (ALoop n) c63_1 (ev 19 []) H (fnQ B a63 (tidyK n Q))
theorem L63_0_eq (B : Base) (cl : CallK) (n : Nat) (x0 : AV) (x1 : AV) (x7 : Int) (x8 : Int) (H : Heap) (Q : AV → Heap → Prop) : awC B cl (ALoop n) b63_0 (keepEnv l63_0 (ev 19 [(0, x0), (1, x1), (7, .int .i64 (x7)), (8, .int .i64 (x8))])) H (AExit.thenK (fun e h => awC B cl (ALoop n) c63_0 e h (k63_1 B cl n Q)) (k63_1 B cl n Q)) =
  (bs (decide ((x8 : Int) < x7)) (wait (aop B E0 H (fun v2 _ => ob (peekN B H 2 (v2)) fun c3 => calleeK B E0 H [.agg c3] (fun g6 z7 => cl g6 z7 H fun v4 H5 => pBool v4 fun b8 => bs (b8) (tidyK n Q (.int .i64 (x8)) H5) (L63_0 B cl n x0 x1 (x7) (IntKind.i64.wrap (x8 + 1)) H5 Q)) (.val (.const (x1)))) (.indexPtr 2 (.const (x0)) (.const (.int .i64 (x8)))))) (J63_1 B cl n H Q)) := by kernel_rfl
theorem L63_0_in {B : Base} {cl : CallK} {n : Nat} {x0 : AV} {x1 : AV} {x7 : Int} {x8 : Int} {H : Heap} {Q : AV → Heap → Prop} (hcl : CLe cl cl) (h :
  bs (decide ((x8 : Int) < x7)) ((aop B E0 H (fun v2 _ => ob (peekN B H 2 (v2)) fun c3 => calleeK B E0 H [.agg c3] (fun g6 z7 => cl g6 z7 H fun v4 H5 => pBool v4 fun b8 => bs (b8) (tidyK n Q (.int .i64 (x8)) H5) (L63_0 B cl n x0 x1 (x7) (IntKind.i64.wrap (x8 + 1)) H5 Q)) (.val (.const (x1)))) (.indexPtr 2 (.const (x0)) (.const (.int .i64 (x8)))))) (J63_1 B cl n H Q)) : L63_0 B cl n x0 x1 x7 x8 H Q := ALoop.round2 (l := l63_0) (a := b63_0) hcl rfl (Eq.mpr (L63_0_eq B cl n x0 x1 x7 x8 H Q) (by simp only [wait_eq] at h ⊢; exact h))
theorem L63_0_tidy {B : Base} {cl : CallK} {n : Nat} {x0 : AV} {x1 : AV} {x7 : Int} {x8 : Int} {y0 : AV} {y1 : AV} {H H2 : Heap} {Q : AV → Heap → Prop} {f : Nat → Nat} (hC : Cln n f H H2) (h0 : RV f H2.length y0 x0) (h1 : RV f H2.length y1 x1) (h : L63_0 B cl n y0 y1 x7 x8 H2 Q) : L63_0 B cl n x0 x1 x7 x8 H Q :=
  ALoop.tidy2 (l := l63_0) (a := b63_0) (env2 := (ev 19 [(0, y0), (1, y1), (7, .int .i64 (x7)), (8, .int .i64 (x8))])) hC (RVP.rve ⟨rfl, h0, ⟨rfl, h1, ⟨rfl, rfl, ⟨rfl, rfl, trivial⟩⟩⟩⟩) h
theorem J63_1_eq (B : Base) (cl : CallK) (n : Nat)  (H : Heap) (Q : AV → Heap → Prop) : awC B cl (ALoop n) b63_1 (keepEnv l63_1 (ev 19 [])) H (fnQ B a63 (tidyK n Q)) =
  (tidyK n Q (.int .i64 ((-1))) H) := by kernel_rfl
theorem J63_1_in {B : Base} {cl : CallK} {n : Nat}  {H : Heap} {Q : AV → Heap → Prop} (h :
  tidyK n Q (.int .i64 ((-1))) H) : J63_1 B cl n  H Q := (awC_keep (l := l63_1) (a := b63_1)).2 (Eq.mpr (J63_1_eq B cl n  H Q) h)
theorem f63_eq (B : Base) (cl : CallK) (n : Nat) (x0 : AV) (x1 : AV) (H : Heap) (Q : AV → Heap → Prop) : fnK B cl (ALoop n) a63 [x0, x1] H (tidyK n Q) =
  (ob (lenOf (x0)) fun k1 => L63_0 B cl n x0 x1 ((k1 : Int)) (0) H Q) := by kernel_rfl
theorem f63_in {B : Base} {x0 : AV} {x1 : AV} {H : Heap} {Q : AV → Heap → Prop} (h : ∀ n cl, n = H.length → cl = Cl B → LowH n H → LowL n [x0, x1] →
  ob (lenOf (x0)) fun k1 => L63_0 B cl n x0 x1 ((k1 : Int)) (0) H Q) : Cl B 63 [x0, x1] H Q := ACall.intro rfl fun h1 h2 => by
    have h3 := h _ _ rfl rfl h1 h2
    exact (Eq.mpr (f63_eq B (Cl B) H.length x0 x1 H Q) h3)

end Go.Am
