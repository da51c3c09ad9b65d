/- What the functions of the seat do, from label to label. -/
import Derived.Test.YtcnmdodgjbfmdaaAf
namespace Go.Am
open Go
set_option maxRecDepth 100000
def k14_0 (B : Base) (cl : CallK) (n : Nat) (Q : AV → Heap → Prop) : KQ := (AExit.thenK (fun e h => awC B cl (ALoop n) c14_1 e h (fnQ B a14 (tidyK n Q))) (fnQ B a14 (tidyK n Q)))
def k14_1 (B : Base) (cl : CallK) (n : Nat) (Q : AV → Heap → Prop) : KQ := (AExit.blockK 0 (k14_0 B cl n Q))
def L14_0 (B : Base) (cl : CallK) (n : Nat) (x3 : AV) (x4 : Int) (H : Heap) (Q : AV → Heap → Prop) : Prop := awC B cl (ALoop n) c14_0 (ev 22 [(3, x3), (4, .int .i64 (x4))]) H (k14_1 B cl n Q)
def J14_1 (B : Base) (cl : CallK) (n : Nat) (x3 : AV) (H : Heap) (Q : AV → Heap → Prop) : Prop := awC B cl (ALoop n) c14_1 (ev 22 [(3, x3)]) H (fnQ B a14 (tidyK n Q))
theorem L14_0_eq (B : Base) (cl : CallK) (n : Nat) (x3 : AV) (x4 : Int) (H : Heap) (Q : AV → Heap → Prop) : awC B cl (ALoop n) b14_0 (keepEnv l14_0 (ev 22 [(3, x3), (4, .int .i64 (x4))])) H (AExit.thenK (fun e h => awC B cl (ALoop n) c14_0 e h (k14_1 B cl n Q)) (k14_1 B cl n Q)) =
  (ob (lenOf (x3)) fun k4 => bs (decide ((x4 : Int) < (k4 : Int))) (wait (aop B E0 H (fun v5 _ => ob (peek B H (v5)) fun c6 => pLive c6 fun v7 => cl 25 [v7] H fun v8 H9 => pLive v8 fun v10 => wait (aop B E0 H9 (fun v11 _ => wait (aop B E0 H9 (fun v12 H13 => L14_0 B cl n x3 (IntKind.i64.wrap (x4 + 1)) H13 Q) (.st 1 (.const (v11)) (.const (v10))))) (.indexPtr 1 (.const (x3)) (.const (.int .i64 (x4)))))) (.indexPtr 1 (.const (x3)) (.const (.int .i64 (x4)))))) (J14_1 B cl n x3 H Q)) := by kernel_rfl
theorem L14_0_in {B : Base} {cl : CallK} {n : Nat} {x3 : AV} {x4 : Int} {H : Heap} {Q : AV → Heap → Prop} (hcl : CLe cl cl) (h :
  ob (lenOf (x3)) fun k4 => bs (decide ((x4 : Int) < (k4 : Int))) ((aop B E0 H (fun v5 _ => ob (peek B H (v5)) fun c6 => pLive c6 fun v7 => cl 25 [v7] H fun v8 H9 => pLive v8 fun v10 => (aop B E0 H9 (fun v11 _ => (aop B E0 H9 (fun v12 H13 => L14_0 B cl n x3 (IntKind.i64.wrap (x4 + 1)) H13 Q) (.st 1 (.const (v11)) (.const (v10))))) (.indexPtr 1 (.const (x3)) (.const (.int .i64 (x4)))))) (.indexPtr 1 (.const (x3)) (.const (.int .i64 (x4)))))) (J14_1 B cl n x3 H Q)) : L14_0 B cl n x3 x4 H Q := ALoop.round2 (l := l14_0) (a := b14_0) hcl rfl (Eq.mpr (L14_0_eq B cl n x3 x4 H Q) (by simp only [wait_eq] at h ⊢; exact h))
theorem L14_0_tidy {B : Base} {cl : CallK} {n : Nat} {x3 : AV} {x4 : Int} {y3 : AV} {H H2 : Heap} {Q : AV → Heap → Prop} {f : Nat → Nat} (hC : Cln n f H H2) (h3 : RV f H2.length y3 x3) (h : L14_0 B cl n y3 x4 H2 Q) : L14_0 B cl n x3 x4 H Q :=
  ALoop.tidy2 (l := l14_0) (a := b14_0) (env2 := (ev 22 [(3, y3), (4, .int .i64 (x4))])) hC (RVP.rve ⟨rfl, h3, ⟨rfl, rfl, trivial⟩⟩) h
theorem J14_1_eq (B : Base) (cl : CallK) (n : Nat) (x3 : AV) (H : Heap) (Q : AV → Heap → Prop) : awC B cl (ALoop n) b14_1 (keepEnv l14_1 (ev 22 [(3, x3)])) H (fnQ B a14 (tidyK n Q)) =
  (tidyK n Q (x3) H) := by kernel_rfl
theorem J14_1_in {B : Base} {cl : CallK} {n : Nat} {x3 : AV} {H : Heap} {Q : AV → Heap → Prop} (h :
  tidyK n Q (x3) H) : J14_1 B cl n x3 H Q := (awC_keep (l := l14_1) (a := b14_1)).2 (Eq.mpr (J14_1_eq B cl n x3 H Q) h)
theorem f14_eq (B : Base) (cl : CallK) (n : Nat) (x0 : AV) (H : Heap) (Q : AV → Heap → Prop) : fnK B cl (ALoop n) a14 [x0] H (tidyK n Q) =
  (cl 10 [x0] H fun v1 H2 => pLive v1 fun v3 => L14_0 B cl n v3 (0) H2 Q) := by kernel_rfl
theorem f14_in {B : Base} {x0 : AV} {H : Heap} {Q : AV → Heap → Prop} (h : ∀ n cl, n = H.length → cl = Cl B → LowH n H → LowL n [x0] →
  cl 10 [x0] H fun v1 H2 => pLive v1 fun v3 => L14_0 B cl n v3 (0) H2 Q) : Cl B 14 [x0] H Q := ACall.intro rfl fun h1 h2 => by
    have h3 := h _ _ rfl rfl h1 h2
    exact (Eq.mpr (f14_eq B (Cl B) H.length x0 H Q) h3)
def k15_0 (B : Base) (cl : CallK) (n : Nat) (Q : AV → Heap → Prop) : KQ := (AExit.thenK (fun e h => awC B cl (ALoop n) c15_4 e h (fnQ B a15 (tidyK n Q))) (fnQ B a15 (tidyK n Q)))
def k15_1 (B : Base) (cl : CallK) (n : Nat) (Q : AV → Heap → Prop) : KQ := (AExit.blockK 0 (k15_0 B cl n Q))
def k15_2 (B : Base) (cl : CallK) (n : Nat) (Q : AV → Heap → Prop) : KQ := (AExit.thenK (fun e h => awC B cl (ALoop n) c15_3 e h (k15_1 B cl n Q)) (k15_1 B cl n Q))
def k15_3 (B : Base) (cl : CallK) (n : Nat) (Q : AV → Heap → Prop) : KQ := (AExit.thenK (fun e h => awC B cl (ALoop n) c15_1 e h (k15_2 B cl n Q)) (k15_2 B cl n Q))
def k15_4 (B : Base) (cl : CallK) (n : Nat) (Q : AV → Heap → Prop) : KQ := (AExit.blockK 1 (k15_3 B cl n Q))
def L15_3 (B : Base) (cl : CallK) (n : Nat) (x0 : AV) (x1 : List UInt8) (x6 : Int) (x7 : AV) (x8 : Int) (H : Heap) (Q : AV → Heap → Prop) : Prop := awC B cl (ALoop n) c15_3 (ev 36 [(0, x0), (1, .str (x1)), (6, .int .i64 (x6)), (7, x7), (8, .int .i64 (x8))]) H (k15_1 B cl n Q)
def J15_2 (B : Base) (cl : CallK) (n : Nat) (x0 : AV) (x1 : List UInt8) (x6 : Int) (x7 : AV) (x8 : Int) (H : Heap) (Q : AV → Heap → Prop) : Prop := awC B cl (ALoop n) c15_2 (ev 36 [(0, x0), (1, .str (x1)), (6, .int .i64 (x6)), (7, x7), (8, .int .i64 (x8))]) H (k15_2 B cl n Q)
def J15_4 (B : Base) (cl : CallK) (n : Nat) (x6 : Int) (x7 : AV) (H : Heap) (Q : AV → Heap → Prop) : Prop := awC B cl (ALoop n) c15_4 (ev 36 [(6, .int .i64 (x6)), (7, x7)]) H (fnQ B a15 (tidyK n Q))
def J15_0 (B : Base) (cl : CallK) (n : Nat) (x0 : AV) (x1 : List UInt8) (x6 : Int) (x7 : AV) (x8 : Int) (H : Heap) (Q : AV → Heap → Prop) : Prop := awC B cl (ALoop n) c15_0 (ev 36 [(0, x0), (1, .str (x1)), (6, .int .i64 (x6)), (7, x7), (8, .int .i64 (x8))]) H (k15_4 B cl n Q)
def J15_1 (B : Base) (cl : CallK) (n : Nat) (x0 : AV) (x1 : List UInt8) (x6 : Int) (x7 : AV) (x8 : Int) (H : Heap) (Q : AV → Heap → Prop) : Prop := awC B cl (ALoop n) c15_1 (ev 36 [(0, x0), (1, .str (x1)), (6, .int .i64 (x6)), (7, x7), (8, .int .i64 (x8))]) H (k15_2 B cl n Q)
theorem L15_3_eq (B : Base) (cl : CallK) (n : Nat) (x0 : AV) (x1 : List UInt8) (x6 : Int) (x7 : AV) (x8 : Int) (H : Heap) (Q : AV → Heap → Prop) : awC B cl (ALoop n) b15_3 (keepEnv l15_3 (ev 36 [(0, x0), (1, .str (x1)), (6, .int .i64 (x6)), (7, x7), (8, .int .i64 (x8))])) H (AExit.thenK (fun e h => awC B cl (ALoop n) c15_3 e h (k15_1 B cl n Q)) (k15_1 B cl n Q)) =
  (ob (lenOf (x0)) fun k1 => bs (decide ((x8 : Int) < (k1 : Int))) (J15_2 B cl n x0 (x1) (x6) x7 (x8) H Q) (J15_4 B cl n (x6) x7 H Q)) := by kernel_rfl
theorem L15_3_in {B : Base} {cl : CallK} {n : Nat} {x0 : AV} {x1 : List UInt8} {x6 : Int} {x7 : AV} {x8 : Int} {H : Heap} {Q : AV → Heap → Prop} (hcl : CLe cl cl) (h :
  ob (lenOf (x0)) fun k1 => bs (decide ((x8 : Int) < (k1 : Int))) (J15_2 B cl n x0 (x1) (x6) x7 (x8) H Q) (J15_4 B cl n (x6) x7 H Q)) : L15_3 B cl n x0 x1 x6 x7 x8 H Q := ALoop.round2 (l := l15_3) (a := b15_3) hcl rfl (Eq.mpr (L15_3_eq B cl n x0 x1 x6 x7 x8 H Q) h)
theorem L15_3_tidy {B : Base} {cl : CallK} {n : Nat} {x0 : AV} {x1 : List UInt8} {x6 : Int} {x7 : AV} {x8 : Int} {y0 : AV} {y7 : AV} {H H2 : Heap} {Q : AV → Heap → Prop} {f : Nat → Nat} (hC : Cln n f H H2) (h0 : RV f H2.length y0 x0) (h7 : RV f H2.length y7 x7) (h : L15_3 B cl n y0 x1 x6 y7 x8 H2 Q) : L15_3 B cl n x0 x1 x6 x7 x8 H Q :=
  ALoop.tidy2 (l := l15_3) (a := b15_3) (env2 := (ev 36 [(0, y0), (1, .str (x1)), (6, .int .i64 (x6)), (7, y7), (8, .int .i64 (x8))])) hC (RVP.rve ⟨rfl, h0, ⟨rfl, rfl, ⟨rfl, rfl, ⟨rfl, h7, ⟨rfl, rfl, trivial⟩⟩⟩⟩⟩) h
theorem J15_2_eq (B : Base) (cl : CallK) (n : Nat) (x0 : AV) (x1 : List UInt8) (x6 : Int) (x7 : AV) (x8 : Int) (H : Heap) (Q : AV → Heap → Prop) : awC B cl (ALoop n) b15_2 (keepEnv l15_2 (ev 36 [(0, x0), (1, .str (x1)), (6, .int .i64 (x6)), (7, x7), (8, .int .i64 (x8))])) H (k15_2 B cl n Q) =
  (wait (aop B E0 H (fun v2 _ => wait (aop B E0 H (fun v3 _ => ob (peek B H (v3)) fun c4 => pStr c4 fun s5 => bs (sLess (s5) (x1)) (J15_0 B cl n x0 (x1) (IntKind.i64.wrap (x6 + 1)) x7 (x8) H Q) (J15_0 B cl n x0 (x1) (x6) x7 (x8) H Q)) (.fieldPtr 0 (.const (v2))))) (.indexPtr 4 (.const (x0)) (.const (.int .i64 (x8)))))) := by kernel_rfl
theorem J15_2_in {B : Base} {cl : CallK} {n : Nat} {x0 : AV} {x1 : List UInt8} {x6 : Int} {x7 : AV} {x8 : Int} {H : Heap} {Q : AV → Heap → Prop} (h :
  (aop B E0 H (fun v2 _ => (aop B E0 H (fun v3 _ => ob (peek B H (v3)) fun c4 => pStr c4 fun s5 => bs (sLess (s5) (x1)) (J15_0 B cl n x0 (x1) (IntKind.i64.wrap (x6 + 1)) x7 (x8) H Q) (J15_0 B cl n x0 (x1) (x6) x7 (x8) H Q)) (.fieldPtr 0 (.const (v2))))) (.indexPtr 4 (.const (x0)) (.const (.int .i64 (x8)))))) : J15_2 B cl n x0 x1 x6 x7 x8 H Q := (awC_keep (l := l15_2) (a := b15_2)).2 (Eq.mpr (J15_2_eq B cl n x0 x1 x6 x7 x8 H Q) (by simp only [wait_eq] at h ⊢; exact h))
theorem J15_4_eq (B : Base) (cl : CallK) (n : Nat) (x6 : Int) (x7 : AV) (H : Heap) (Q : AV → Heap → Prop) : awC B cl (ALoop n) b15_4 (keepEnv l15_4 (ev 36 [(6, .int .i64 (x6)), (7, x7)])) H (fnQ B a15 (tidyK n Q)) =
  (tidyK n Q (.tuple [.int .i64 (x6), x7]) H) := by kernel_rfl
theorem J15_4_in {B : Base} {cl : CallK} {n : Nat} {x6 : Int} {x7 : AV} {H : Heap} {Q : AV → Heap → Prop} (h :
  tidyK n Q (.tuple [.int .i64 (x6), x7]) H) : J15_4 B cl n x6 x7 H Q := (awC_keep (l := l15_4) (a := b15_4)).2 (Eq.mpr (J15_4_eq B cl n x6 x7 H Q) h)
theorem J15_0_eq (B : Base) (cl : CallK) (n : Nat) (x0 : AV) (x1 : List UInt8) (x6 : Int) (x7 : AV) (x8 : Int) (H : Heap) (Q : AV → Heap → Prop) : awC B cl (ALoop n) b15_0 (keepEnv l15_0 (ev 36 [(0, x0), (1, .str (x1)), (6, .int .i64 (x6)), (7, x7), (8, .int .i64 (x8))])) H (k15_4 B cl n Q) =
  (pGuard (x7) (fun b6 => bs b6 (J15_1 B cl n x0 (x1) (x6) (.bool true) (x8) H Q) (wait (aop B E0 H (fun v7 _ => wait (aop B E0 H (fun v8 _ => ob (peek B H (v8)) fun c9 => pStr c9 fun s10 => sbinK .eql (s10) (x1) fun v11 => J15_1 B cl n x0 (x1) (x6) v11 (x8) H Q) (.fieldPtr 0 (.const (v7))))) (.indexPtr 4 (.const (x0)) (.const (.int .i64 (x8))))))) (wait (aop B E0 H (fun v12 _ => J15_1 B cl n x0 (x1) (x6) v12 (x8) H Q) (.pick (.const (.tuple [])) (.const (.bool true)) (.const (.tuple [])))))) := by kernel_rfl
theorem J15_0_in {B : Base} {cl : CallK} {n : Nat} {x0 : AV} {x1 : List UInt8} {x6 : Int} {x7 : AV} {x8 : Int} {H : Heap} {Q : AV → Heap → Prop} (h :
  pGuard (x7) (fun b6 => bs b6 (J15_1 B cl n x0 (x1) (x6) (.bool true) (x8) H Q) ((aop B E0 H (fun v7 _ => (aop B E0 H (fun v8 _ => ob (peek B H (v8)) fun c9 => pStr c9 fun s10 => sbinK .eql (s10) (x1) fun v11 => J15_1 B cl n x0 (x1) (x6) v11 (x8) H Q) (.fieldPtr 0 (.const (v7))))) (.indexPtr 4 (.const (x0)) (.const (.int .i64 (x8))))))) ((aop B E0 H (fun v12 _ => J15_1 B cl n x0 (x1) (x6) v12 (x8) H Q) (.pick (.const (.tuple [])) (.const (.bool true)) (.const (.tuple [])))))) : J15_0 B cl n x0 x1 x6 x7 x8 H Q := (awC_keep (l := l15_0) (a := b15_0)).2 (Eq.mpr (J15_0_eq B cl n x0 x1 x6 x7 x8 H Q) (by simp only [wait_eq] at h ⊢; exact h))
theorem J15_1_eq (B : Base) (cl : CallK) (n : Nat) (x0 : AV) (x1 : List UInt8) (x6 : Int) (x7 : AV) (x8 : Int) (H : Heap) (Q : AV → Heap → Prop) : awC B cl (ALoop n) b15_1 (keepEnv l15_1 (ev 36 [(0, x0), (1, .str (x1)), (6, .int .i64 (x6)), (7, x7), (8, .int .i64 (x8))])) H (k15_2 B cl n Q) =
  (L15_3 B cl n x0 (x1) (x6) x7 (IntKind.i64.wrap (x8 + 1)) H Q) := by kernel_rfl
theorem J15_1_in {B : Base} {cl : CallK} {n : Nat} {x0 : AV} {x1 : List UInt8} {x6 : Int} {x7 : AV} {x8 : Int} {H : Heap} {Q : AV → Heap → Prop} (h :
  L15_3 B cl n x0 (x1) (x6) x7 (IntKind.i64.wrap (x8 + 1)) H Q) : J15_1 B cl n x0 x1 x6 x7 x8 H Q := (awC_keep (l := l15_1) (a := b15_1)).2 (Eq.mpr (J15_1_eq B cl n x0 x1 x6 x7 x8 H Q) h)
theorem f15_eq (B : Base) (cl : CallK) (n : Nat) (x0 : AV) (x1 : List UInt8) (H : Heap) (Q : AV → Heap → Prop) : fnK B cl (ALoop n) a15 [x0, .str (x1)] H (tidyK n Q) =
  (L15_3 B cl n x0 (x1) (0) (.bool false) (0) H Q) := by kernel_rfl
theorem f15_in {B : Base} {x0 : AV} {x1 : List UInt8} {H : Heap} {Q : AV → Heap → Prop} (h : ∀ n cl, n = H.length → cl = Cl B → LowH n H → LowL n [x0, .str (x1)] →
  L15_3 B cl n x0 (x1) (0) (.bool false) (0) H Q) : Cl B 15 [x0, .str (x1)] H Q := ACall.intro rfl fun h1 h2 => by
    have h3 := h _ _ rfl rfl h1 h2
    exact (Eq.mpr (f15_eq B (Cl B) H.length x0 x1 H Q) h3)
def k18_0 (B : Base) (cl : CallK) (n : Nat) (Q : AV → Heap → Prop) : KQ := (AExit.thenK (fun e h => awC B cl (ALoop n) c18_1 e h (fnQ B a18 (tidyK n Q))) (fnQ B a18 (tidyK n Q)))
def k18_1 (B : Base) (cl : CallK) (n : Nat) (Q : AV → Heap → Prop) : KQ := (AExit.blockK 0 (k18_0 B cl n Q))
def L18_0 (B : Base) (cl : CallK) (n : Nat) (x0 : AV) (x3 : Int) (H : Heap) (Q : AV → Heap → Prop) : Prop := awC B cl (ALoop n) c18_0 (ev 22 [(0, x0), (3, .int .i64 (x3))]) H (k18_1 B cl n Q)
def J18_1 (B : Base) (cl : CallK) (n : Nat)  (H : Heap) (Q : AV → Heap → Prop) : Prop := awC B cl (ALoop n) c18_1 (ev 22 []) H (fnQ B a18 (tidyK n Q))
theorem L18_0_eq (B : Base) (cl : CallK) (n : Nat) (x0 : AV) (x3 : Int) (H : Heap) (Q : AV → Heap → Prop) : awC B cl (ALoop n) b18_0 (keepEnv l18_0 (ev 22 [(0, x0), (3, .int .i64 (x3))])) H (AExit.thenK (fun e h => awC B cl (ALoop n) c18_0 e h (k18_1 B cl n Q)) (k18_1 B cl n Q)) =
  (ob (lenOf (x0)) fun k1 => bs (decide ((x3 : Int) < (k1 : Int))) (wait (aop B E0 H (fun v2 _ => wait (aop B E0 H (fun v3 _ => ob (peek B H (v3)) fun c4 => pStr c4 fun s5 => wait (aop B E0 H (fun v6 _ => wait (aop B E0 H (fun v7 _ => ob (peek B H (v7)) fun c8 => pStr c8 fun s9 => sbinK .geq (s5) (s9) fun v10 => pBool (v10) fun b11 => (if b11 = true then tidyK n Q (.bool false) H else L18_0 B cl n x0 (IntKind.i64.wrap (x3 + 1)) H Q)) (.fieldPtr 0 (.const (v6))))) (.indexPtr 4 (.const (x0)) (.const (.int .i64 (x3)))))) (.fieldPtr 0 (.const (v2))))) (.indexPtr 4 (.const (x0)) (.const (.int .i64 (IntKind.i64.wrap (x3 - 1))))))) (J18_1 B cl n H Q)) := by kernel_rfl
theorem L18_0_in {B : Base} {cl : CallK} {n : Nat} {x0 : AV} {x3 : Int} {H : Heap} {Q : AV → Heap → Prop} (hcl : CLe cl cl) (h :
  ob (lenOf (x0)) fun k1 => bs (decide ((x3 : Int) < (k1 : Int))) ((aop B E0 H (fun v2 _ => (aop B E0 H (fun v3 _ => ob (peek B H (v3)) fun c4 => pStr c4 fun s5 => (aop B E0 H (fun v6 _ => (aop B E0 H (fun v7 _ => ob (peek B H (v7)) fun c8 => pStr c8 fun s9 => sbinK .geq (s5) (s9) fun v10 => pBool (v10) fun b11 => (if b11 = true then tidyK n Q (.bool false) H else L18_0 B cl n x0 (IntKind.i64.wrap (x3 + 1)) H Q)) (.fieldPtr 0 (.const (v6))))) (.indexPtr 4 (.const (x0)) (.const (.int .i64 (x3)))))) (.fieldPtr 0 (.const (v2))))) (.indexPtr 4 (.const (x0)) (.const (.int .i64 (IntKind.i64.wrap (x3 - 1))))))) (J18_1 B cl n H Q)) : L18_0 B cl n x0 x3 H Q := ALoop.round2 (l := l18_0) (a := b18_0) hcl rfl (Eq.mpr (L18_0_eq B cl n x0 x3 H Q) (by simp only [wait_eq] at h ⊢; exact h))
theorem L18_0_tidy {B : Base} {cl : CallK} {n : Nat} {x0 : AV} {x3 : Int} {y0 : AV} {H H2 : Heap} {Q : AV → Heap → Prop} {f : Nat → Nat} (hC : Cln n f H H2) (h0 : RV f H2.length y0 x0) (h : L18_0 B cl n y0 x3 H2 Q) : L18_0 B cl n x0 x3 H Q :=
  ALoop.tidy2 (l := l18_0) (a := b18_0) (env2 := (ev 22 [(0, y0), (3, .int .i64 (x3))])) hC (RVP.rve ⟨rfl, h0, ⟨rfl, rfl, trivial⟩⟩) h
theorem J18_1_eq (B : Base) (cl : CallK) (n : Nat)  (H : Heap) (Q : AV → Heap → Prop) : awC B cl (ALoop n) b18_1 (keepEnv l18_1 (ev 22 [])) H (fnQ B a18 (tidyK n Q)) =
  (tidyK n Q (.bool true) H) := by kernel_rfl
theorem J18_1_in {B : Base} {cl : CallK} {n : Nat}  {H : Heap} {Q : AV → Heap → Prop} (h :
  tidyK n Q (.bool true) H) : J18_1 B cl n  H Q := (awC_keep (l := l18_1) (a := b18_1)).2 (Eq.mpr (J18_1_eq B cl n  H Q) h)
theorem f18_eq (B : Base) (cl : CallK) (n : Nat) (x0 : AV) (H : Heap) (Q : AV → Heap → Prop) : fnK B cl (ALoop n) a18 [x0] H (tidyK n Q) =
  (L18_0 B cl n x0 (1) H Q) := by kernel_rfl
theorem f18_in {B : Base} {x0 : AV} {H : Heap} {Q : AV → Heap → Prop} (h : ∀ n cl, n = H.length → cl = Cl B → LowH n H → LowL n [x0] →
  L18_0 B cl n x0 (1) H Q) : Cl B 18 [x0] H Q := ACall.intro rfl fun h1 h2 => by
    have h3 := h _ _ rfl rfl h1 h2
    exact (Eq.mpr (f18_eq B (Cl B) H.length x0 H Q) h3)
def k25_0 (B : Base) (cl : CallK) (n : Nat) (Q : AV → Heap → Prop) : KQ := (AExit.thenK (fun e h => awC B cl (ALoop n) c25_7 e h (fnQ B a25 (tidyK n Q))) (fnQ B a25 (tidyK n Q)))
def k25_1 (B : Base) (cl : CallK) (n : Nat) (Q : AV → Heap → Prop) : KQ := (AExit.blockK 0 (k25_0 B cl n Q))
def k25_2 (B : Base) (cl : CallK) (n : Nat) (Q : AV → Heap → Prop) : KQ := (AExit.thenK (fun e h => awC B cl (ALoop n) c25_6 e h (k25_1 B cl n Q)) (k25_1 B cl n Q))
def k25_3 (B : Base) (cl : CallK) (n : Nat) (Q : AV → Heap → Prop) : KQ := (AExit.thenK (fun e h => awC B cl (ALoop n) c25_4 e h (k25_2 B cl n Q)) (k25_2 B cl n Q))
def k25_4 (B : Base) (cl : CallK) (n : Nat) (Q : AV → Heap → Prop) : KQ := (AExit.blockK 1 (k25_3 B cl n Q))
def k25_5 (B : Base) (cl : CallK) (n : Nat) (Q : AV → Heap → Prop) : KQ := (AExit.thenK (fun e h => awC B cl (ALoop n) c25_2 e h (k25_4 B cl n Q)) (k25_4 B cl n Q))
def k25_6 (B : Base) (cl : CallK) (n : Nat) (Q : AV → Heap → Prop) : KQ := (AExit.thenK (fun e h => awC B cl (ALoop n) (.exit 1) e h (k25_5 B cl n Q)) (k25_5 B cl n Q))
def L25_6 (B : Base) (cl : CallK) (n : Nat) (x0 : AV) (x3 : AV) (x4 : Int) (H : Heap) (Q : AV → Heap → Prop) : Prop := awC B cl (ALoop n) c25_6 (ev 58 [(0, x0), (3, x3), (4, .int .i64 (x4))]) H (k25_1 B cl n Q)
def J25_5 (B : Base) (cl : CallK) (n : Nat) (x0 : AV) (x3 : AV) (x4 : Int) (H : Heap) (Q : AV → Heap → Prop) : Prop := awC B cl (ALoop n) c25_5 (ev 58 [(0, x0), (3, x3), (4, .int .i64 (x4))]) H (k25_2 B cl n Q)
def J25_7 (B : Base) (cl : CallK) (n : Nat) (x3 : AV) (H : Heap) (Q : AV → Heap → Prop) : Prop := awC B cl (ALoop n) c25_7 (ev 58 [(3, x3)]) H (fnQ B a25 (tidyK n Q))
def J25_3 (B : Base) (cl : CallK) (n : Nat) (x0 : AV) (x3 : AV) (x4 : Int) (x5 : AV) (x6 : AV) (H : Heap) (Q : AV → Heap → Prop) : Prop := awC B cl (ALoop n) c25_3 (ev 58 [(0, x0), (3, x3), (4, .int .i64 (x4)), (5, x5), (6, x6)]) H (k25_4 B cl n Q)
def J25_1 (B : Base) (cl : CallK) (n : Nat) (x0 : AV) (x3 : AV) (x4 : Int) (x5 : AV) (x23 : AV) (H : Heap) (Q : AV → Heap → Prop) : Prop := awC B cl (ALoop n) c25_1 (ev 58 [(0, x0), (3, x3), (4, .int .i64 (x4)), (5, x5), (23, x23)]) H (k25_5 B cl n Q)
def J25_0 (B : Base) (cl : CallK) (n : Nat) (x0 : AV) (x3 : AV) (x4 : Int) (x5 : AV) (x34 : AV) (H : Heap) (Q : AV → Heap → Prop) : Prop := awC B cl (ALoop n) c25_0 (ev 58 [(0, x0), (3, x3), (4, .int .i64 (x4)), (5, x5), (34, x34)]) H (k25_6 B cl n Q)
def J25_2 (B : Base) (cl : CallK) (n : Nat) (x0 : AV) (x3 : AV) (x4 : Int) (x5 : AV) (H : Heap) (Q : AV → Heap → Prop) : Prop := awC B cl (ALoop n) c25_2 (ev 58 [(0, x0), (3, x3), (4, .int .i64 (x4)), (5, x5)]) H (k25_4 B cl n Q)
def J25_4 (B : Base) (cl : CallK) (n : Nat) (x0 : AV) (x3 : AV) (x4 : Int) (H : Heap) (Q : AV → Heap → Prop) : Prop := awC B cl (ALoop n) c25_4 (ev 58 [(0, x0), (3, x3), (4, .int .i64 (x4))]) H (k25_2 B cl n Q)
theorem L25_6_eq (B : Base) (cl : CallK) (n : Nat) (x0 : AV) (x3 : AV) (x4 : Int) (H : Heap) (Q : AV → Heap → Prop) : awC B cl (ALoop n) b25_6 (keepEnv l25_6 (ev 58 [(0, x0), (3, x3), (4, .int .i64 (x4))])) H (AExit.thenK (fun e h => awC B cl (ALoop n) c25_6 e h (k25_1 B cl n Q)) (k25_1 B cl n Q)) =
  (ob (lenOf (x0)) fun k1 => bs (decide ((x4 : Int) < (k1 : Int))) (J25_5 B cl n x0 x3 (x4) H Q) (J25_7 B cl n x3 H Q)) := by kernel_rfl
theorem L25_6_in {B : Base} {cl : CallK} {n : Nat} {x0 : AV} {x3 : AV} {x4 : Int} {H : Heap} {Q : AV → Heap → Prop} (hcl : CLe cl cl) (h :
  ob (lenOf (x0)) fun k1 => bs (decide ((x4 : Int) < (k1 : Int))) (J25_5 B cl n x0 x3 (x4) H Q) (J25_7 B cl n x3 H Q)) : L25_6 B cl n x0 x3 x4 H Q := ALoop.round2 (l := l25_6) (a := b25_6) hcl rfl (Eq.mpr (L25_6_eq B cl n x0 x3 x4 H Q) h)
theorem L25_6_tidy {B : Base} {cl : CallK} {n : Nat} {x0 : AV} {x3 : AV} {x4 : Int} {y0 : AV} {y3 : AV} {H H2 : Heap} {Q : AV → Heap → Prop} {f : Nat → Nat} (hC : Cln n f H H2) (h0 : RV f H2.length y0 x0) (h3 : RV f H2.length y3 x3) (h : L25_6 B cl n y0 y3 x4 H2 Q) : L25_6 B cl n x0 x3 x4 H Q :=
  ALoop.tidy2 (l := l25_6) (a := b25_6) (env2 := (ev 58 [(0, y0), (3, y3), (4, .int .i64 (x4))])) hC (RVP.rve ⟨rfl, h0, ⟨rfl, h3, ⟨rfl, rfl, trivial⟩⟩⟩) h
theorem J25_5_eq (B : Base) (cl : CallK) (n : Nat) (x0 : AV) (x3 : AV) (x4 : Int) (H : Heap) (Q : AV → Heap → Prop) : awC B cl (ALoop n) b25_5 (keepEnv l25_5 (ev 58 [(0, x0), (3, x3), (4, .int .i64 (x4))])) H (k25_2 B cl n Q) =
  (wait (aop B E0 H (fun v2 _ => wait (aop B E0 H (fun v3 _ => ob (peek B H (v3)) fun c4 => pStr c4 fun s5 => cl 15 [x3, .str (s5)] H fun v6 H7 => pLive v6 fun v8 => wait (aop B E0 H7 (fun v9 _ => wait (aop B E0 H7 (fun v10 _ => J25_3 B cl n x0 x3 (x4) v9 v10 H7 Q) (.extract (some .bool) 1 (.const (v8))))) (.extract (some (.int .i64)) 0 (.const (v8))))) (.fieldPtr 0 (.const (v2))))) (.indexPtr 4 (.const (x0)) (.const (.int .i64 (x4)))))) := by kernel_rfl
theorem J25_5_in {B : Base} {cl : CallK} {n : Nat} {x0 : AV} {x3 : AV} {x4 : Int} {H : Heap} {Q : AV → Heap → Prop} (h :
  (aop B E0 H (fun v2 _ => (aop B E0 H (fun v3 _ => ob (peek B H (v3)) fun c4 => pStr c4 fun s5 => cl 15 [x3, .str (s5)] H fun v6 H7 => pLive v6 fun v8 => (aop B E0 H7 (fun v9 _ => (aop B E0 H7 (fun v10 _ => J25_3 B cl n x0 x3 (x4) v9 v10 H7 Q) (.extract (some .bool) 1 (.const (v8))))) (.extract (some (.int .i64)) 0 (.const (v8))))) (.fieldPtr 0 (.const (v2))))) (.indexPtr 4 (.const (x0)) (.const (.int .i64 (x4)))))) : J25_5 B cl n x0 x3 x4 H Q := (awC_keep (l := l25_5) (a := b25_5)).2 (Eq.mpr (J25_5_eq B cl n x0 x3 x4 H Q) (by simp only [wait_eq] at h ⊢; exact h))
theorem J25_7_eq (B : Base) (cl : CallK) (n : Nat) (x3 : AV) (H : Heap) (Q : AV → Heap → Prop) : awC B cl (ALoop n) b25_7 (keepEnv l25_7 (ev 58 [(3, x3)])) H (fnQ B a25 (tidyK n Q)) =
  (tidyK n Q (x3) H) := by kernel_rfl
theorem J25_7_in {B : Base} {cl : CallK} {n : Nat} {x3 : AV} {H : Heap} {Q : AV → Heap → Prop} (h :
  tidyK n Q (x3) H) : J25_7 B cl n x3 H Q := (awC_keep (l := l25_7) (a := b25_7)).2 (Eq.mpr (J25_7_eq B cl n x3 H Q) h)
theorem J25_3_eq (B : Base) (cl : CallK) (n : Nat) (x0 : AV) (x3 : AV) (x4 : Int) (x5 : AV) (x6 : AV) (H : Heap) (Q : AV → Heap → Prop) : awC B cl (ALoop n) b25_3 (keepEnv l25_3 (ev 58 [(0, x0), (3, x3), (4, .int .i64 (x4)), (5, x5), (6, x6)])) H (k25_4 B cl n Q) =
  (J25_1 B cl n x0 x3 (x4) x5 x6 H Q) := by kernel_rfl
theorem J25_3_in {B : Base} {cl : CallK} {n : Nat} {x0 : AV} {x3 : AV} {x4 : Int} {x5 : AV} {x6 : AV} {H : Heap} {Q : AV → Heap → Prop} (h :
  J25_1 B cl n x0 x3 (x4) x5 x6 H Q) : J25_3 B cl n x0 x3 x4 x5 x6 H Q := (awC_keep (l := l25_3) (a := b25_3)).2 (Eq.mpr (J25_3_eq B cl n x0 x3 x4 x5 x6 H Q) h)
theorem J25_1_eq (B : Base) (cl : CallK) (n : Nat) (x0 : AV) (x3 : AV) (x4 : Int) (x5 : AV) (x23 : AV) (H : Heap) (Q : AV → Heap → Prop) : awC B cl (ALoop n) b25_1 (keepEnv l25_1 (ev 58 [(0, x0), (3, x3), (4, .int .i64 (x4)), (5, x5), (23, x23)])) H (k25_5 B cl n Q) =
  (pBool (x23) fun b11 => (if b11 = true then wait (aop B E0 H (fun v12 _ => wait (aop B E0 H (fun v13 _ => ob (peek B H (v13)) fun c14 => pInt .i64 c14 fun n15 => wait (aop B E0 H (fun v16 _ => wait (aop B E0 H (fun v17 _ => ob (peek B H (v17)) fun c18 => pInt .i64 c18 fun n19 => ibinK .geq .i64 (n15) (n19) fun v20 => J25_0 B cl n x0 x3 (x4) x5 v20 H Q) (.fieldPtr 3 (.const (v16))))) (.indexPtr 4 (.const (x3)) (.const (x5))))) (.fieldPtr 3 (.const (v12))))) (.indexPtr 4 (.const (x0)) (.const (.int .i64 (x4))))) else J25_2 B cl n x0 x3 (x4) x5 H Q)) := by kernel_rfl
theorem J25_1_in {B : Base} {cl : CallK} {n : Nat} {x0 : AV} {x3 : AV} {x4 : Int} {x5 : AV} {x23 : AV} {H : Heap} {Q : AV → Heap → Prop} (h :
  pBool (x23) fun b11 => (if b11 = true then (aop B E0 H (fun v12 _ => (aop B E0 H (fun v13 _ => ob (peek B H (v13)) fun c14 => pInt .i64 c14 fun n15 => (aop B E0 H (fun v16 _ => (aop B E0 H (fun v17 _ => ob (peek B H (v17)) fun c18 => pInt .i64 c18 fun n19 => ibinK .geq .i64 (n15) (n19) fun v20 => J25_0 B cl n x0 x3 (x4) x5 v20 H Q) (.fieldPtr 3 (.const (v16))))) (.indexPtr 4 (.const (x3)) (.const (x5))))) (.fieldPtr 3 (.const (v12))))) (.indexPtr 4 (.const (x0)) (.const (.int .i64 (x4))))) else J25_2 B cl n x0 x3 (x4) x5 H Q)) : J25_1 B cl n x0 x3 x4 x5 x23 H Q := (awC_keep (l := l25_1) (a := b25_1)).2 (Eq.mpr (J25_1_eq B cl n x0 x3 x4 x5 x23 H Q) (by simp only [wait_eq] at h ⊢; exact h))
theorem J25_0_eq (B : Base) (cl : CallK) (n : Nat) (x0 : AV) (x3 : AV) (x4 : Int) (x5 : AV) (x34 : AV) (H : Heap) (Q : AV → Heap → Prop) : awC B cl (ALoop n) b25_0 (keepEnv l25_0 (ev 58 [(0, x0), (3, x3), (4, .int .i64 (x4)), (5, x5), (34, x34)])) H (k25_6 B cl n Q) =
  (pBool (x34) fun b21 => (if b21 = true then wait (aop B E0 H (fun v22 _ => ob (peekN B H 4 (v22)) fun c23 => wait (aop B E0 H (fun v24 _ => wait (aop B E0 H (fun v25 H26 => J25_4 B cl n x0 x3 (x4) H26 Q) (.st 4 (.const (v24)) (.const (.agg c23))))) (.indexPtr 4 (.const (x3)) (.const (x5))))) (.indexPtr 4 (.const (x0)) (.const (.int .i64 (x4))))) else J25_4 B cl n x0 x3 (x4) H Q)) := by kernel_rfl
theorem J25_0_in {B : Base} {cl : CallK} {n : Nat} {x0 : AV} {x3 : AV} {x4 : Int} {x5 : AV} {x34 : AV} {H : Heap} {Q : AV → Heap → Prop} (h :
  pBool (x34) fun b21 => (if b21 = true then (aop B E0 H (fun v22 _ => ob (peekN B H 4 (v22)) fun c23 => (aop B E0 H (fun v24 _ => (aop B E0 H (fun v25 H26 => J25_4 B cl n x0 x3 (x4) H26 Q) (.st 4 (.const (v24)) (.const (.agg c23))))) (.indexPtr 4 (.const (x3)) (.const (x5))))) (.indexPtr 4 (.const (x0)) (.const (.int .i64 (x4))))) else J25_4 B cl n x0 x3 (x4) H Q)) : J25_0 B cl n x0 x3 x4 x5 x34 H Q := (awC_keep (l := l25_0) (a := b25_0)).2 (Eq.mpr (J25_0_eq B cl n x0 x3 x4 x5 x34 H Q) (by simp only [wait_eq] at h ⊢; exact h))
theorem J25_4_eq (B : Base) (cl : CallK) (n : Nat) (x0 : AV) (x3 : AV) (x4 : Int) (H : Heap) (Q : AV → Heap → Prop) : awC B cl (ALoop n) b25_4 (keepEnv l25_4 (ev 58 [(0, x0), (3, x3), (4, .int .i64 (x4))])) H (k25_2 B cl n Q) =
  (L25_6 B cl n x0 x3 (IntKind.i64.wrap (x4 + 1)) H Q) := by kernel_rfl
theorem J25_4_in {B : Base} {cl : CallK} {n : Nat} {x0 : AV} {x3 : AV} {x4 : Int} {H : Heap} {Q : AV → Heap → Prop} (h :
  L25_6 B cl n x0 x3 (IntKind.i64.wrap (x4 + 1)) H Q) : J25_4 B cl n x0 x3 x4 H Q := (awC_keep (l := l25_4) (a := b25_4)).2 (Eq.mpr (J25_4_eq B cl n x0 x3 x4 H Q) h)
theorem f25_eq (B : Base) (cl : CallK) (n : Nat) (x0 : AV) (H : Heap) (Q : AV → Heap → Prop) : fnK B cl (ALoop n) a25 [x0] H (tidyK n Q) =
  (L25_6 B cl n x0 .nils (0) H Q) := by kernel_rfl
theorem f25_in {B : Base} {x0 : AV} {H : Heap} {Q : AV → Heap → Prop} (h : ∀ n cl, n = H.length → cl = Cl B → LowH n H → LowL n [x0] →
  L25_6 B cl n x0 .nils (0) H Q) : Cl B 25 [x0] H Q := ACall.intro rfl fun h1 h2 => by
    have h3 := h _ _ rfl rfl h1 h2
    exact (Eq.mpr (f25_eq B (Cl B) H.length x0 H Q) h3)

end Go.Am
