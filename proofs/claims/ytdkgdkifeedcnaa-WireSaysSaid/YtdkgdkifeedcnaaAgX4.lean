/- What the functions of the seat do, from label to label. -/
import Derived.Test.YtdkgdkifeedcnaaAf
namespace Go.Am
open Go
set_option maxRecDepth 100000
def k24_0 (B : Base) (cl : CallK) (n : Nat) (Q : AV → Heap → Prop) : KQ := (AExit.thenK (fun e h => awC B cl (ALoop n) c24_5 e h (fnQ B a24 (tidyK n Q))) (fnQ B a24 (tidyK n Q)))
def k24_1 (B : Base) (cl : CallK) (n : Nat) (Q : AV → Heap → Prop) : KQ := (AExit.blockK 0 (k24_0 B cl n Q))
def k24_2 (B : Base) (cl : CallK) (n : Nat) (Q : AV → Heap → Prop) : KQ := (AExit.thenK (fun e h => awC B cl (ALoop n) c24_4 e h (k24_1 B cl n Q)) (k24_1 B cl n Q))
def k24_3 (B : Base) (cl : CallK) (n : Nat) (Q : AV → Heap → Prop) : KQ := (AExit.thenK (fun e h => awC B cl (ALoop n) (.ops [⟨(some 17), none, (.op (.mov (.tmp 6)))⟩, ⟨(some 18), none, (.op (.ibin .add .i64 (.tmp 17) (.const (.int .i64 1))))⟩, ⟨(some 6), none, (.op (.mov (.tmp 18)))⟩]) e h (k24_2 B cl n Q)) (k24_2 B cl n Q))
def k24_4 (B : Base) (cl : CallK) (n : Nat) (Q : AV → Heap → Prop) : KQ := (AExit.blockK 1 (k24_3 B cl n Q))
def L24_4 (B : Base) (cl : CallK) (n : Nat) (x0 : AV) (x1 : Int) (x5 : AV) (x6 : Int) (H : Heap) (Q : AV → Heap → Prop) : Prop := awC B cl (ALoop n) c24_4 (ev 44 [(0, x0), (1, .int .i64 x1), (5, x5), (6, .int .i64 x6)]) H (k24_1 B cl n Q)
def J24_3 (B : Base) (cl : CallK) (n : Nat) (x0 : AV) (x1 : Int) (x5 : AV) (x6 : Int) (H : Heap) (Q : AV → Heap → Prop) : Prop := awC B cl (ALoop n) c24_3 (ev 44 [(0, x0), (1, .int .i64 x1), (5, x5), (6, .int .i64 x6)]) H (k24_2 B cl n Q)
def J24_5 (B : Base) (cl : CallK) (n : Nat) (x5 : AV) (H : Heap) (Q : AV → Heap → Prop) : Prop := awC B cl (ALoop n) c24_5 (ev 44 [(5, x5)]) H (fnQ B a24 (tidyK n Q))
def J24_2 (B : Base) (cl : CallK) (n : Nat) (x0 : AV) (x1 : Int) (x5 : AV) (x6 : Int) (x7 : AV) (H : Heap) (Q : AV → Heap → Prop) : Prop := awC B cl (ALoop n) c24_2 (ev 44 [(0, x0), (1, .int .i64 x1), (5, x5), (6, .int .i64 x6), (7, x7)]) H (k24_4 B cl n Q)
def J24_1 (B : Base) (cl : CallK) (n : Nat) (x0 : AV) (x1 : Int) (x5 : AV) (x6 : Int) (x7 : AV) (H : Heap) (Q : AV → Heap → Prop) : Prop := awC B cl (ALoop n) c24_1 (ev 44 [(0, x0), (1, .int .i64 x1), (5, x5), (6, .int .i64 x6), (7, x7)]) H (k24_4 B cl n Q)
def J24_0 (B : Base) (cl : CallK) (n : Nat) (x0 : AV) (x1 : Int) (x5 : AV) (x6 : Int) (x7 : AV) (H : Heap) (Q : AV → Heap → Prop) : Prop := awC B cl (ALoop n) c24_0 (ev 44 [(0, x0), (1, .int .i64 x1), (5, x5), (6, .int .i64 x6), (7, x7)]) H (k24_4 B cl n Q)
theorem L24_4_eq (B : Base) (cl : CallK) (n : Nat) (x0 : AV) (x1 : Int) (x5 : AV) (x6 : Int) (H : Heap) (Q : AV → Heap → Prop) : awC B cl (ALoop n) b24_4 (keepEnv l24_4 (ev 44 [(0, x0), (1, .int .i64 x1), (5, x5), (6, .int .i64 x6)])) H (AExit.thenK (fun e h => awC B cl (ALoop n) c24_4 e h (k24_1 B cl n Q)) (k24_1 B cl n Q)) =
  (ob (lenOf x0) fun k1 => bs (decide ((x6 : Int) < (k1 : Int))) (bs (decide ((x6 : Int) < x1)) (J24_3 B cl n x0 x1 x5 x6 H Q) (J24_5 B cl n x5 H Q)) (J24_5 B cl n x5 H Q)) := by kernel_rfl
theorem L24_4_in {B : Base} {cl : CallK} {n : Nat} {x0 : AV} {x1 : Int} {x5 : AV} {x6 : Int} {H : Heap} {Q : AV → Heap → Prop} (hcl : CLe cl cl) (h :
  ob (lenOf x0) fun k1 => bs (decide ((x6 : Int) < (k1 : Int))) (bs (decide ((x6 : Int) < x1)) (J24_3 B cl n x0 x1 x5 x6 H Q) (J24_5 B cl n x5 H Q)) (J24_5 B cl n x5 H Q)) : L24_4 B cl n x0 x1 x5 x6 H Q := ALoop.round2 (l := l24_4) (a := b24_4) hcl rfl (Eq.mpr (L24_4_eq B cl n x0 x1 x5 x6 H Q) h)
theorem J24_3_eq (B : Base) (cl : CallK) (n : Nat) (x0 : AV) (x1 : Int) (x5 : AV) (x6 : Int) (H : Heap) (Q : AV → Heap → Prop) : awC B cl (ALoop n) b24_3 (keepEnv l24_3 (ev 44 [(0, x0), (1, .int .i64 x1), (5, x5), (6, .int .i64 x6)])) H (k24_2 B cl n Q) =
  (wait (aop B E0 H (fun v2 _ => ob (peekN B H 4 v2) fun c3 => wait (aop B E0 H (fun v4 H5 => wait (aop B E0 H5 (fun v6 H7 => J24_2 B cl n x0 x1 x5 x6 v4 H7 Q) (.st 4 (.const v4) (.const (.agg c3))))) (.alloc [(.str []), (.str []), (.bool false), (.int .i64 0)]))) (.indexPtr 4 (.const x0) (.const (.int .i64 x6))))) := by kernel_rfl
theorem J24_3_in {B : Base} {cl : CallK} {n : Nat} {x0 : AV} {x1 : Int} {x5 : AV} {x6 : Int} {H : Heap} {Q : AV → Heap → Prop} (h :
  (aop B E0 H (fun v2 _ => ob (peekN B H 4 v2) fun c3 => (aop B E0 H (fun v4 H5 => (aop B E0 H5 (fun v6 H7 => J24_2 B cl n x0 x1 x5 x6 v4 H7 Q) (.st 4 (.const v4) (.const (.agg c3))))) (.alloc [(.str []), (.str []), (.bool false), (.int .i64 0)]))) (.indexPtr 4 (.const x0) (.const (.int .i64 x6))))) : J24_3 B cl n x0 x1 x5 x6 H Q := (awC_keep (l := l24_3) (a := b24_3)).2 (Eq.mpr (J24_3_eq B cl n x0 x1 x5 x6 H Q) (by simp only [wait_eq] at h ⊢; exact h))
theorem J24_5_eq (B : Base) (cl : CallK) (n : Nat) (x5 : AV) (H : Heap) (Q : AV → Heap → Prop) : awC B cl (ALoop n) b24_5 (keepEnv l24_5 (ev 44 [(5, x5)])) H (fnQ B a24 (tidyK n Q)) =
  (tidyK n Q x5 H) := by kernel_rfl
theorem J24_5_in {B : Base} {cl : CallK} {n : Nat} {x5 : AV} {H : Heap} {Q : AV → Heap → Prop} (h :
  tidyK n Q x5 H) : J24_5 B cl n x5 H Q := (awC_keep (l := l24_5) (a := b24_5)).2 (Eq.mpr (J24_5_eq B cl n x5 H Q) h)
theorem J24_2_eq (B : Base) (cl : CallK) (n : Nat) (x0 : AV) (x1 : Int) (x5 : AV) (x6 : Int) (x7 : AV) (H : Heap) (Q : AV → Heap → Prop) : awC B cl (ALoop n) b24_2 (keepEnv l24_2 (ev 44 [(0, x0), (1, .int .i64 x1), (5, x5), (6, .int .i64 x6), (7, x7)])) H (k24_4 B cl n Q) =
  (wait (aop B E0 H (fun v8 _ => ob (peek B H v8) fun c9 => pStr c9 fun s10 => wait (aop B E0 H (fun v11 _ => ob (peek B H v11) fun c12 => pStr c12 fun s13 => wait (aop B E0 H (fun v14 _ => wait (aop B E0 H (fun v15 _ => wait (aop B E0 H (fun v16 H17 => J24_1 B cl n x0 x1 x5 x6 x7 H17 Q) (.st 1 (.const v15) (.const v14)))) (.fieldPtr 0 (.const x7)))) (.sliceS (.const (.str s10)) none (some (.const (.int .i64 (minInts (((List.length s13 : Nat) : Int)) [130]))))))) (.fieldPtr 0 (.const x7)))) (.fieldPtr 0 (.const x7)))) := by kernel_rfl
theorem J24_2_in {B : Base} {cl : CallK} {n : Nat} {x0 : AV} {x1 : Int} {x5 : AV} {x6 : Int} {x7 : AV} {H : Heap} {Q : AV → Heap → Prop} (h :
  (aop B E0 H (fun v8 _ => ob (peek B H v8) fun c9 => pStr c9 fun s10 => (aop B E0 H (fun v11 _ => ob (peek B H v11) fun c12 => pStr c12 fun s13 => (aop B E0 H (fun v14 _ => (aop B E0 H (fun v15 _ => (aop B E0 H (fun v16 H17 => J24_1 B cl n x0 x1 x5 x6 x7 H17 Q) (.st 1 (.const v15) (.const v14)))) (.fieldPtr 0 (.const x7)))) (.sliceS (.const (.str s10)) none (some (.const (.int .i64 (minInts (((List.length s13 : Nat) : Int)) [130]))))))) (.fieldPtr 0 (.const x7)))) (.fieldPtr 0 (.const x7)))) : J24_2 B cl n x0 x1 x5 x6 x7 H Q := (awC_keep (l := l24_2) (a := b24_2)).2 (Eq.mpr (J24_2_eq B cl n x0 x1 x5 x6 x7 H Q) (by simp only [wait_eq] at h ⊢; exact h))
theorem J24_1_eq (B : Base) (cl : CallK) (n : Nat) (x0 : AV) (x1 : Int) (x5 : AV) (x6 : Int) (x7 : AV) (H : Heap) (Q : AV → Heap → Prop) : awC B cl (ALoop n) b24_1 (keepEnv l24_1 (ev 44 [(0, x0), (1, .int .i64 x1), (5, x5), (6, .int .i64 x6), (7, x7)])) H (k24_4 B cl n Q) =
  (wait (aop B E0 H (fun v18 _ => ob (peek B H v18) fun c19 => pStr c19 fun s20 => wait (aop B E0 H (fun v21 _ => ob (peek B H v21) fun c22 => pStr c22 fun s23 => wait (aop B E0 H (fun v24 _ => wait (aop B E0 H (fun v25 _ => wait (aop B E0 H (fun v26 H27 => J24_0 B cl n x0 x1 x5 x6 x7 H27 Q) (.st 1 (.const v25) (.const v24)))) (.fieldPtr 1 (.const x7)))) (.sliceS (.const (.str s20)) none (some (.const (.int .i64 (minInts (((List.length s23 : Nat) : Int)) [1030]))))))) (.fieldPtr 1 (.const x7)))) (.fieldPtr 1 (.const x7)))) := by kernel_rfl
theorem J24_1_in {B : Base} {cl : CallK} {n : Nat} {x0 : AV} {x1 : Int} {x5 : AV} {x6 : Int} {x7 : AV} {H : Heap} {Q : AV → Heap → Prop} (h :
  (aop B E0 H (fun v18 _ => ob (peek B H v18) fun c19 => pStr c19 fun s20 => (aop B E0 H (fun v21 _ => ob (peek B H v21) fun c22 => pStr c22 fun s23 => (aop B E0 H (fun v24 _ => (aop B E0 H (fun v25 _ => (aop B E0 H (fun v26 H27 => J24_0 B cl n x0 x1 x5 x6 x7 H27 Q) (.st 1 (.const v25) (.const v24)))) (.fieldPtr 1 (.const x7)))) (.sliceS (.const (.str s20)) none (some (.const (.int .i64 (minInts (((List.length s23 : Nat) : Int)) [1030]))))))) (.fieldPtr 1 (.const x7)))) (.fieldPtr 1 (.const x7)))) : J24_1 B cl n x0 x1 x5 x6 x7 H Q := (awC_keep (l := l24_1) (a := b24_1)).2 (Eq.mpr (J24_1_eq B cl n x0 x1 x5 x6 x7 H Q) (by simp only [wait_eq] at h ⊢; exact h))
theorem J24_0_eq (B : Base) (cl : CallK) (n : Nat) (x0 : AV) (x1 : Int) (x5 : AV) (x6 : Int) (x7 : AV) (H : Heap) (Q : AV → Heap → Prop) : awC B cl (ALoop n) b24_0 (keepEnv l24_0 (ev 44 [(0, x0), (1, .int .i64 x1), (5, x5), (6, .int .i64 x6), (7, x7)])) H (k24_4 B cl n Q) =
  (ob (peekN B H 4 x7) fun c28 => ob (layParts [(.str []), (.str []), (.bool false), (.int .i64 0)] [(0, 4, .agg c28)]) fun c29 => slK H 4 1 c29 fun v30 H31 => wait (aop B E0 H31 (fun v32 H33 => L24_4 B cl n x0 x1 v32 (IntKind.i64.wrap (x6 + 1)) H33 Q) (.append 4 48 (.const x5) (.const v30)))) := by kernel_rfl
theorem J24_0_in {B : Base} {cl : CallK} {n : Nat} {x0 : AV} {x1 : Int} {x5 : AV} {x6 : Int} {x7 : AV} {H : Heap} {Q : AV → Heap → Prop} (h :
  ob (peekN B H 4 x7) fun c28 => ob (layParts [(.str []), (.str []), (.bool false), (.int .i64 0)] [(0, 4, .agg c28)]) fun c29 => slK H 4 1 c29 fun v30 H31 => (aop B E0 H31 (fun v32 H33 => L24_4 B cl n x0 x1 v32 (IntKind.i64.wrap (x6 + 1)) H33 Q) (.append 4 48 (.const x5) (.const v30)))) : J24_0 B cl n x0 x1 x5 x6 x7 H Q := (awC_keep (l := l24_0) (a := b24_0)).2 (Eq.mpr (J24_0_eq B cl n x0 x1 x5 x6 x7 H Q) (by simp only [wait_eq] at h ⊢; exact h))
theorem f24_eq (B : Base) (cl : CallK) (n : Nat) (x0 : AV) (x1 : Int) (H : Heap) (Q : AV → Heap → Prop) : fnK B cl (ALoop n) a24 [x0, .int .i64 x1] H (tidyK n Q) =
  (L24_4 B cl n x0 x1 .nils 0 H Q) := by kernel_rfl
theorem f24_in {B : Base} {x0 : AV} {x1 : Int} {H : Heap} {Q : AV → Heap → Prop} (h : ∀ n cl, n = H.length → cl = Cl B → LowH n H → LowL n [x0, .int .i64 x1] →
  L24_4 B cl n x0 x1 .nils 0 H Q) : Cl B 24 [x0, .int .i64 x1] H Q := ACall.intro rfl fun h1 h2 => by
    have h3 := h _ _ rfl rfl h1 h2
    exact (Eq.mpr (f24_eq B (Cl B) H.length x0 x1 H Q) h3)

theorem f25_in {B : Base} {x0 : AV} {x1 : Bool} {H : Heap} {Q : AV → Heap → Prop} (h : ∀ n cl, n = H.length → cl = Cl B → LowH n H → LowL n [x0, .bool x1] →
  (aop B E0 H (fun v1 _ => (aop B E0 H (fun v2 _ => ob (peek B H v2) fun c3 => pBool c3 fun b4 => bs b4 ((aop B E0 H (fun v5 _ => (aop B E0 H (fun v6 _ => (aop B E0 H (fun v7 H8 => tidyK n Q (.tuple []) H8) (.st 1 (.const v6) (.const (.bool true))))) (.fieldPtr 1 (.const v5)))) (.nilCheck (.const x0)))) ((aop B E0 H (fun v9 _ => (aop B E0 H (fun v10 _ => (aop B E0 H (fun v11 _ => (aop B E0 H (fun v12 H13 => tidyK n Q (.tuple []) H13) (.st 1 (.const v11) (.const v9)))) (.fieldPtr 1 (.const v10)))) (.nilCheck (.const x0)))) (.not (.const (.bool x1)))))) (.fieldPtr 1 (.const v1)))) (.nilCheck (.const x0)))) : Cl B 25 [x0, .bool x1] H Q := ACall.intro rfl fun h1 h2 => by
    have h3 := h _ _ rfl rfl h1 h2
    exact (Eq.mpr (by kernel_rfl) h3)

def k26_0 (B : Base) (cl : CallK) (n : Nat) (Q : AV → Heap → Prop) : KQ := (AExit.blockK 0 (fnQ B a26 (tidyK n Q)))
def L26_0 (B : Base) (cl : CallK) (n : Nat) (x3 x20 : AV) (x21 x22 : Int) (H : Heap) (Q : AV → Heap → Prop) : Prop := awC B cl (ALoop n) c26_0 (ev 30 [(3, x3), (20, x20), (21, .int .i64 x21), (22, .int .i64 x22)]) H (k26_0 B cl n Q)
theorem L26_0_in {B : Base} {cl : CallK} {n : Nat} {x3 x20 : AV} {x21 x22 : Int} {H : Heap} {Q : AV → Heap → Prop} (hcl : CLe cl cl) (h :
  bs (decide ((x22 : Int) < x21)) ((aop B E0 H (fun v11 _ => ob (peekN B H 4 v11) fun c12 => (aop B E0 H (fun v13 H14 => (aop B E0 H14 (fun v15 H16 => ob (peekN B H16 4 v13) fun c17 => calleeK B E0 H16 [.agg c17] (fun g20 z21 => cl g20 z21 H16 fun v18 H19 => pLive v18 fun v22 => L26_0 B cl n x3 x20 x21 (IntKind.i64.wrap (x22 + 1)) H19 Q) (.val (.const x3))) (.st 4 (.const v13) (.const (.agg c12))))) (.alloc [(.str []), (.str []), (.bool false), (.int .i64 0)]))) (.indexPtr 4 (.const x20) (.const (.int .i64 x22))))) (tidyK n Q (.tuple []) H)) : L26_0 B cl n x3 x20 x21 x22 H Q := ALoop.round2 (l := l26_0) (a := b26_0) hcl rfl (Eq.mpr (by kernel_rfl) h)
theorem f26_in {B : Base} {x0 x1 : AV} {x2 : Int} {x3 : AV} {H : Heap} {Q : AV → Heap → Prop} (h : ∀ n cl, n = H.length → cl = Cl B → LowH n H → LowL n [x0, x1, .int .i64 x2, x3] →
  ob (lenOf x1) fun k1 => ibinK .leq .i64 (k1 : Int) x2 fun v2 => cl 25 [x0, v2] H fun v3 H4 => pLive v3 fun v5 => ob (lenOf x1) fun k6 => cl 29 [x0, .int .i64 (k6 : Int)] H4 fun v7 H8 => pLive v7 fun v9 => ob (lenOf x1) fun k10 => L26_0 B cl n x3 x1 (k10 : Int) 0 H8 Q) : Cl B 26 [x0, x1, .int .i64 x2, x3] H Q := ACall.intro rfl fun h1 h2 => by
    have h3 := h _ _ rfl rfl h1 h2
    exact (Eq.mpr (by kernel_rfl) h3)

theorem f27_in {B : Base} {x0 x1 : AV} {H : Heap} {Q : AV → Heap → Prop} (h : ∀ n cl, n = H.length → cl = Cl B → LowH n H → LowL n [x0, x1] →
  (aop B E0 H (fun v1 H2 => ob (peekN B H2 4 v1) fun c3 => cl 59 [.agg c3] H2 fun v4 H5 => tyK .bool v4 fun v6 => cl 25 [x0, v6] H5 fun v7 H8 => pLive v7 fun v9 => (aop B E0 H8 (fun v10 _ => (aop B E0 H8 (fun v11 _ => ob (peek B H8 v11) fun c12 => pLive c12 fun v13 => ob (peekN B H8 4 v1) fun c14 => cl 60 [.agg c14] H8 fun v15 H16 => pLive v15 fun v17 => (ob (peek B H16 v11) fun c26 => pLive c26 fun v27 => (v27 : AV) = v13) ∧ (((aop B E0 H16 (fun v25 _ => (v25 : AV) = v11) (.fieldPtr 0 (.const v10)))) ∧ (((aop B E0 H16 (fun v24 _ => (v24 : AV) = v10) (.nilCheck (.const x0)))) ∧ (((x0 : AV) = x0) ∧ (((x0 : AV) = x0) ∧ ((aop B E0 H16 (fun v18 H19 => ((x0 : AV) = x0) ∧ ((aop B E0 H19 (fun v20 _ => (aop B E0 H19 (fun v21 _ => (aop B E0 H19 (fun v22 H23 => tidyK n Q (.tuple []) H23) (.st 1 (.const v21) (.const v18)))) (.fieldPtr 0 (.const v20)))) (.nilCheck (.const x0))))) (.append 1 1 (.const v13) (.const v17))))))))) (.fieldPtr 0 (.const v10)))) (.nilCheck (.const x0)))) (.box 4 (.const x1)))) : Cl B 27 [x0, x1] H Q := ACall.intro rfl fun h1 h2 => by
    have h3 := h _ _ rfl rfl h1 h2
    exact (Eq.mpr (by kernel_rfl) h3)

theorem f28_in {B : Base} {x0 : AV} {x1 : List UInt8} {H : Heap} {Q : AV → Heap → Prop} (h : ∀ n cl, n = H.length → cl = Cl B → LowH n H → LowL n [x0, .str x1] →
  (aop B E0 H (fun v1 _ => (aop B E0 H (fun v2 _ => ob (peek B H v2) fun c3 => pLive c3 fun v4 => cl 61 [v4, .str x1] H fun v5 H6 => pLive v5 fun v7 => (aop B E0 H6 (fun v8 _ => (aop B E0 H6 (fun v9 _ => (aop B E0 H6 (fun v10 H11 => tidyK n Q (.tuple []) H11) (.st 1 (.const v9) (.const v7)))) (.fieldPtr 0 (.const v8)))) (.nilCheck (.const x0)))) (.fieldPtr 0 (.const v1)))) (.nilCheck (.const x0)))) : Cl B 28 [x0, .str x1] H Q := ACall.intro rfl fun h1 h2 => by
    have h3 := h _ _ rfl rfl h1 h2
    exact (Eq.mpr (by kernel_rfl) h3)

theorem f29_in {B : Base} {x0 : AV} {x1 : Int} {H : Heap} {Q : AV → Heap → Prop} (h : ∀ n cl, n = H.length → cl = Cl B → LowH n H → LowL n [x0, .int .i64 x1] →
  bs (decide ((x1 : Int) ≥ 0)) (ibinK .leq .i64 x1 1099511627776 fun v1 => cl 25 [x0, v1] H fun v2 H3 => pLive v2 fun v4 => (aop B E0 H3 (fun v5 _ => (aop B E0 H3 (fun v6 _ => ob (peek B H3 v6) fun c7 => pLive c7 fun v8 => cl 62 [v8, .int .u64 (IntKind.u64.wrap (maxInts x1 [0]))] H3 fun v9 H10 => pLive v9 fun v11 => (aop B E0 H10 (fun v12 _ => (aop B E0 H10 (fun v13 _ => (aop B E0 H10 (fun v14 H15 => tidyK n Q (.tuple []) H15) (.st 1 (.const v13) (.const v11)))) (.fieldPtr 0 (.const v12)))) (.nilCheck (.const x0)))) (.fieldPtr 0 (.const v5)))) (.nilCheck (.const x0)))) (cl 25 [x0, .bool false] H fun v16 H17 => pLive v16 fun v18 => (aop B E0 H17 (fun v19 _ => (aop B E0 H17 (fun v20 _ => ob (peek B H17 v20) fun c21 => pLive c21 fun v22 => cl 62 [v22, .int .u64 (IntKind.u64.wrap (maxInts x1 [0]))] H17 fun v23 H24 => pLive v23 fun v25 => (aop B E0 H24 (fun v26 _ => (aop B E0 H24 (fun v27 _ => (aop B E0 H24 (fun v28 H29 => tidyK n Q (.tuple []) H29) (.st 1 (.const v27) (.const v25)))) (.fieldPtr 0 (.const v26)))) (.nilCheck (.const x0)))) (.fieldPtr 0 (.const v19)))) (.nilCheck (.const x0))))) : Cl B 29 [x0, .int .i64 x1] H Q := ACall.intro rfl fun h1 h2 => by
    have h3 := h _ _ rfl rfl h1 h2
    exact (Eq.mpr (by kernel_rfl) h3)

theorem f30_in {B : Base} {x0 : AV} {H : Heap} {Q : AV → Heap → Prop} (h : ∀ n cl, n = H.length → cl = Cl B → LowH n H → LowL n [x0] →
  (aop B E0 H (fun v1 _ => (aop B E0 H (fun v2 _ => ob (peek B H v2) fun c3 => pBool c3 fun b4 => bs b4 (tidyK n Q (.tuple [.nils, .int .i64 1]) H) ((aop B E0 H (fun v5 _ => (aop B E0 H (fun v6 _ => ob (peek B H v6) fun c7 => pLive c7 fun v8 => tidyK n Q (.tuple [v8, .int .i64 0]) H) (.fieldPtr 0 (.const v5)))) (.nilCheck (.const x0))))) (.fieldPtr 1 (.const v1)))) (.nilCheck (.const x0)))) : Cl B 30 [x0] H Q := ACall.intro rfl fun h1 h2 => by
    have h3 := h _ _ rfl rfl h1 h2
    exact (Eq.mpr (by kernel_rfl) h3)

def k31_0 (B : Base) (cl : CallK) (n : Nat) (Q : AV → Heap → Prop) : KQ := (AExit.thenK (fun e h => awC B cl (ALoop n) c31_5 e h (fnQ B a31 (tidyK n Q))) (fnQ B a31 (tidyK n Q)))
def k31_1 (B : Base) (cl : CallK) (n : Nat) (Q : AV → Heap → Prop) : KQ := (AExit.blockK 0 (k31_0 B cl n Q))
def k31_2 (B : Base) (cl : CallK) (n : Nat) (Q : AV → Heap → Prop) : KQ := (AExit.thenK (fun e h => awC B cl (ALoop n) c31_4 e h (k31_1 B cl n Q)) (k31_1 B cl n Q))
def k31_3 (B : Base) (cl : CallK) (n : Nat) (Q : AV → Heap → Prop) : KQ := (AExit.thenK (fun e h => awC B cl (ALoop n) c31_2 e h (k31_2 B cl n Q)) (k31_2 B cl n Q))
def k31_4 (B : Base) (cl : CallK) (n : Nat) (Q : AV → Heap → Prop) : KQ := (AExit.blockK 1 (k31_3 B cl n Q))
def J31_6 (B : Base) (cl : CallK) (n : Nat) (x0 : List UInt8) (x1 : AV) (H : Heap) (Q : AV → Heap → Prop) : Prop := awC B cl (ALoop n) c31_6 (ev 34 [(0, .str x0), (1, x1)]) H (fnQ B a31 (tidyK n Q))
def L31_4 (B : Base) (cl : CallK) (n : Nat) (x0 x1 : AV) (x6 : Int) (H : Heap) (Q : AV → Heap → Prop) : Prop := awC B cl (ALoop n) c31_4 (ev 34 [(0, x0), (1, x1), (6, .int .i64 x6)]) H (k31_1 B cl n Q)
def J31_3 (B : Base) (cl : CallK) (n : Nat) (x0 x1 : AV) (x6 : Int) (H : Heap) (Q : AV → Heap → Prop) : Prop := awC B cl (ALoop n) c31_3 (ev 34 [(0, x0), (1, x1), (6, .int .i64 x6)]) H (k31_2 B cl n Q)
def J31_5 (B : Base) (cl : CallK) (n : Nat) (x0 : AV) (H : Heap) (Q : AV → Heap → Prop) : Prop := awC B cl (ALoop n) c31_5 (ev 34 [(0, x0)]) H (fnQ B a31 (tidyK n Q))
def J31_1 (B : Base) (cl : CallK) (n : Nat) (x0 x1 : AV) (x6 : Int) (x7 : AV) (H : Heap) (Q : AV → Heap → Prop) : Prop := awC B cl (ALoop n) c31_1 (ev 34 [(0, x0), (1, x1), (6, .int .i64 x6), (7, x7)]) H (k31_4 B cl n Q)
def J31_0 (B : Base) (cl : CallK) (n : Nat) (x0 x1 : AV) (x6 : Int) (H : Heap) (Q : AV → Heap → Prop) : Prop := awC B cl (ALoop n) c31_0 (ev 34 [(0, x0), (1, x1), (6, .int .i64 x6)]) H (k31_4 B cl n Q)
def J31_2 (B : Base) (cl : CallK) (n : Nat) (x0 x1 : AV) (x6 : Int) (H : Heap) (Q : AV → Heap → Prop) : Prop := awC B cl (ALoop n) c31_2 (ev 34 [(0, x0), (1, x1), (6, .int .i64 x6)]) H (k31_2 B cl n Q)
theorem J31_6_in {B : Base} {cl : CallK} {n : Nat} {x0 : List UInt8} {x1 : AV} {H : Heap} {Q : AV → Heap → Prop} (h :
  ob (lenOf x1) fun k1 => cl 34 [.str x0, .int .i64 (k1 : Int)] H fun v2 H3 => pStr v2 fun s4 => L31_4 B cl n (.str s4) x1 0 H3 Q) : J31_6 B cl n x0 x1 H Q := (awC_keep (l := l31_6) (a := b31_6)).2 (Eq.mpr (by kernel_rfl) h)
theorem L31_4_in {B : Base} {cl : CallK} {n : Nat} {x0 x1 : AV} {x6 : Int} {H : Heap} {Q : AV → Heap → Prop} (hcl : CLe cl cl) (h :
  ob (lenOf x1) fun k5 => bs (decide ((x6 : Int) < (k5 : Int))) (J31_3 B cl n x0 x1 x6 H Q) (J31_5 B cl n x0 H Q)) : L31_4 B cl n x0 x1 x6 H Q := ALoop.round2 (l := l31_4) (a := b31_4) hcl rfl (Eq.mpr (by kernel_rfl) h)
theorem J31_3_in {B : Base} {cl : CallK} {n : Nat} {x0 x1 : AV} {x6 : Int} {H : Heap} {Q : AV → Heap → Prop} (h :
  (aop B E0 H (fun v6 _ => ob (peekN B H 4 v6) fun c7 => cl 63 [.agg c7] H fun v8 H9 => tyK .bool v8 fun v10 => J31_1 B cl n x0 x1 x6 v10 H9 Q) (.indexPtr 4 (.const x1) (.const (.int .i64 x6))))) : J31_3 B cl n x0 x1 x6 H Q := (awC_keep (l := l31_3) (a := b31_3)).2 (Eq.mpr (by kernel_rfl) h)
theorem J31_5_in {B : Base} {cl : CallK} {n : Nat} {x0 : AV} {H : Heap} {Q : AV → Heap → Prop} (h :
  tidyK n Q (.tuple [x0, .bool true]) H) : J31_5 B cl n x0 H Q := (awC_keep (l := l31_5) (a := b31_5)).2 (Eq.mpr (by kernel_rfl) h)
theorem J31_1_in {B : Base} {cl : CallK} {n : Nat} {x0 x1 : AV} {x6 : Int} {x7 : AV} {H : Heap} {Q : AV → Heap → Prop} (h :
  pBool x7 fun b11 => bs b11 (J31_0 B cl n x0 x1 x6 H Q) (tidyK n Q (.tuple [x0, .bool false]) H)) : J31_1 B cl n x0 x1 x6 x7 H Q := (awC_keep (l := l31_1) (a := b31_1)).2 (Eq.mpr (by kernel_rfl) h)
theorem J31_0_in {B : Base} {cl : CallK} {n : Nat} {x0 x1 : AV} {x6 : Int} {H : Heap} {Q : AV → Heap → Prop} (h :
  (aop B E0 H (fun v12 _ => ob (peekN B H 4 v12) fun c13 => cl 64 [.agg c13] H fun v14 H15 => pStr v14 fun s16 => pStr x0 fun s17 => sbinK .add s17 s16 fun v18 => J31_2 B cl n v18 x1 x6 H15 Q) (.indexPtr 4 (.const x1) (.const (.int .i64 x6))))) : J31_0 B cl n x0 x1 x6 H Q := (awC_keep (l := l31_0) (a := b31_0)).2 (Eq.mpr (by kernel_rfl) h)
theorem J31_2_in {B : Base} {cl : CallK} {n : Nat} {x0 x1 : AV} {x6 : Int} {H : Heap} {Q : AV → Heap → Prop} (h :
  L31_4 B cl n x0 x1 (IntKind.i64.wrap (x6 + 1)) H Q) : J31_2 B cl n x0 x1 x6 H Q := (awC_keep (l := l31_2) (a := b31_2)).2 (Eq.mpr (by kernel_rfl) h)
theorem f31_in {B : Base} {x0 : List UInt8} {x1 : AV} {H : Heap} {Q : AV → Heap → Prop} (h : ∀ n cl, n = H.length → cl = Cl B → LowH n H → LowL n [.str x0, x1] →
  J31_6 B cl n x0 x1 H Q) : Cl B 31 [.str x0, x1] H Q := ACall.intro rfl fun h1 h2 => by
    have h3 := h _ _ rfl rfl h1 h2
    exact (Eq.mpr (by kernel_rfl) h3)

theorem f32_in {B : Base} {x0 x1 : List UInt8} {H : Heap} {Q : AV → Heap → Prop} (h : ∀ n cl, n = H.length → cl = Cl B → LowH n H → LowL n [.str x0, .str x1] →
  cl 65 [.str x0, .str x1] H fun v1 H2 => pStr v1 fun s3 => tidyK n Q (.str s3) H2) : Cl B 32 [.str x0, .str x1] H Q := ACall.intro rfl fun h1 h2 => by
    have h3 := h _ _ rfl rfl h1 h2
    exact (Eq.mpr (by kernel_rfl) h3)

theorem f33_in {B : Base} {x0 : Int} {H : Heap} {Q : AV → Heap → Prop} (h : ∀ n cl, n = H.length → cl = Cl B → LowH n H → LowL n [.int .i64 x0] →
  bs (decide ((x0 : Int) ≥ 0)) (ibinK .leq .i64 x0 1099511627776 fun v1 => tidyK n Q v1 H) (tidyK n Q (.bool false) H)) : Cl B 33 [.int .i64 x0] H Q := ACall.intro rfl fun h1 h2 => by
    have h3 := h _ _ rfl rfl h1 h2
    exact (Eq.mpr (by kernel_rfl) h3)

theorem f34_in {B : Base} {x0 : List UInt8} {x1 : Int} {H : Heap} {Q : AV → Heap → Prop} (h : ∀ n cl, n = H.length → cl = Cl B → LowH n H → LowL n [.str x0, .int .i64 x1] →
  cl 66 [.str x0, .int .u64 (IntKind.u64.wrap x1)] H fun v1 H2 => pStr v1 fun s3 => tidyK n Q (.str s3) H2) : Cl B 34 [.str x0, .int .i64 x1] H Q := ACall.intro rfl fun h1 h2 => by
    have h3 := h _ _ rfl rfl h1 h2
    exact (Eq.mpr (by kernel_rfl) h3)

def k35_0 (B : Base) (cl : CallK) (n : Nat) (Q : AV → Heap → Prop) : KQ := (AExit.thenK (fun e h => awC B cl (ALoop n) c35_1 e h (fnQ B a35 (tidyK n Q))) (fnQ B a35 (tidyK n Q)))
def k35_1 (B : Base) (cl : CallK) (n : Nat) (Q : AV → Heap → Prop) : KQ := (AExit.blockK 0 (k35_0 B cl n Q))
def L35_0 (B : Base) (cl : CallK) (n : Nat) (x0 x1 : AV) (x5 : Int) (H : Heap) (Q : AV → Heap → Prop) : Prop := awC B cl (ALoop n) c35_0 (ev 26 [(0, x0), (1, x1), (5, .int .i64 x5)]) H (k35_1 B cl n Q)
def J35_1 (B : Base) (cl : CallK) (n : Nat)  (H : Heap) (Q : AV → Heap → Prop) : Prop := awC B cl (ALoop n) c35_1 (ev 26 []) H (fnQ B a35 (tidyK n Q))
theorem L35_0_in {B : Base} {cl : CallK} {n : Nat} {x0 x1 : AV} {x5 : Int} {H : Heap} {Q : AV → Heap → Prop} (hcl : CLe cl cl) (h :
  ob (lenOf x0) fun k3 => bs (decide ((x5 : Int) < (k3 : Int))) ((aop B E0 H (fun v4 _ => ob (peekN B H 4 v4) fun c5 => (aop B E0 H (fun v6 _ => ob (peekN B H 4 v6) fun c7 => (aop B E0 H (fun v8 _ => pBool v8 fun b9 => (if b9 = true then tidyK n Q (.bool false) H else L35_0 B cl n x0 x1 (IntKind.i64.wrap (x5 + 1)) H Q)) (.aeq true 4 [(0, .str), (1, .str), (2, .bool), (3, (.int .i64))] (.const (.agg c5)) (.const (.agg c7))))) (.indexPtr 4 (.const x1) (.const (.int .i64 x5))))) (.indexPtr 4 (.const x0) (.const (.int .i64 x5))))) (J35_1 B cl n H Q)) : L35_0 B cl n x0 x1 x5 H Q := ALoop.round2 (l := l35_0) (a := b35_0) hcl rfl (Eq.mpr (by kernel_rfl) h)
theorem J35_1_in {B : Base} {cl : CallK} {n : Nat}  {H : Heap} {Q : AV → Heap → Prop} (h :
  tidyK n Q (.bool true) H) : J35_1 B cl n  H Q := (awC_keep (l := l35_1) (a := b35_1)).2 (Eq.mpr (by kernel_rfl) h)
theorem f35_in {B : Base} {x0 x1 : AV} {H : Heap} {Q : AV → Heap → Prop} (h : ∀ n cl, n = H.length → cl = Cl B → LowH n H → LowL n [x0, x1] →
  ob (lenOf x0) fun k1 => ob (lenOf x1) fun k2 => bs (((k1 : Int) : Int) != (k2 : Int)) (tidyK n Q (.bool false) H) (L35_0 B cl n x0 x1 0 H Q)) : Cl B 35 [x0, x1] H Q := ACall.intro rfl fun h1 h2 => by
    have h3 := h _ _ rfl rfl h1 h2
    exact (Eq.mpr (by kernel_rfl) h3)

theorem f36_in {B : Base} {x0 : AV} {H : Heap} {Q : AV → Heap → Prop} (h : ∀ n cl, n = H.length → cl = Cl B → LowH n H → LowL n [x0] →
  (aop B E0 H (fun v1 H2 => (aop B E0 H2 (fun v3 H4 => (aop B E0 H4 (fun v5 _ => ob (peek B H4 v5) fun c6 => pInt .i64 c6 fun n7 => (aop B E0 H4 (fun v8 _ => ob (peek B H4 v8) fun c9 => pLive c9 fun v10 => (aop B E0 H4 (fun v11 _ => ob (peek B H4 v11) fun c12 => pLive c12 fun v13 => ob (lenOf v13) fun k14 => (aop B E0 H4 (fun v15 _ => (aop B E0 H4 (fun v16 _ => ob (peek B H4 v16) fun c17 => pLive c17 fun v18 => ob (layParts [] []) fun c19 => slK H4 1 0 c19 fun v20 H21 => (aop B E0 H21 (fun v22 H23 => (ob (peek B H23 v16) fun c38 => pLive c38 fun v39 => (v39 : AV) = v18) ∧ (((aop B E0 H23 (fun v37 _ => (v37 : AV) = v16) (.fieldPtr 2 (.const v1)))) ∧ ((ob (peek B H23 v5) fun c35 => pInt .i64 c35 fun n36 => (.int .i64 n36 : AV) = .int .i64 n7) ∧ (((aop B E0 H23 (fun v34 _ => (v34 : AV) = v5) (.fieldPtr 0 (.const v1)))) ∧ (cl 37 [v18] H23 fun v24 H25 => pLive v24 fun v26 => (ob (peek B H25 v5) fun c32 => pInt .i64 c32 fun n33 => (.int .i64 n33 : AV) = .int .i64 n7) ∧ (((aop B E0 H25 (fun v31 _ => (v31 : AV) = v5) (.fieldPtr 0 (.const v1)))) ∧ (ob (layParts [(.int .i64 0), .nils, .nils] [(0, 1, .int .i64 n7), (1, 1, v22), (2, 1, v26)]) fun c27 => (aop B E0 H25 (fun v28 H29 => ob (peekN B H29 3 v3) fun c30 => tidyK n Q (.agg c30) H29) (.st 3 (.const v3) (.const (.agg c27))))))))))) (.append 1 1 (.const v20) (.const v15)))) (.fieldPtr 2 (.const v1)))) (.sliceL 1 (.const v10) none (some (.const (.int .i64 (minInts (k14 : Int) [300])))) none))) (.fieldPtr 1 (.const v1)))) (.fieldPtr 1 (.const v1)))) (.fieldPtr 0 (.const v1)))) (.alloc [(.int .i64 0), .nils, .nils]))) (.box 3 (.const x0)))) : Cl B 36 [x0] H Q := ACall.intro rfl fun h1 h2 => by
    have h3 := h _ _ rfl rfl h1 h2
    exact (Eq.mpr (by kernel_rfl) h3)

theorem f37_in {B : Base} {x0 : AV} {H : Heap} {Q : AV → Heap → Prop} (h : ∀ n cl, n = H.length → cl = Cl B → LowH n H → LowL n [x0] →
  ob (layParts [] []) fun c1 => slK H 32 0 c1 fun v2 H3 => ob (lenOf x0) fun k4 => (aop B E0 H3 (fun v5 _ => (aop B E0 H3 (fun v6 H7 => tidyK n Q v6 H7) (.append 32 32 (.const v2) (.const v5)))) (.sliceL 32 (.const x0) none (some (.const (.int .i64 (minInts (k4 : Int) [70])))) none))) : Cl B 37 [x0] H Q := ACall.intro rfl fun h1 h2 => by
    have h3 := h _ _ rfl rfl h1 h2
    exact (Eq.mpr (by kernel_rfl) h3)

def k38_0 (B : Base) (cl : CallK) (n : Nat) (Q : AV → Heap → Prop) : KQ := (AExit.thenK (fun e h => awC B cl (ALoop n) c38_6 e h (fnQ B a38 (tidyK n Q))) (fnQ B a38 (tidyK n Q)))
def k38_1 (B : Base) (cl : CallK) (n : Nat) (Q : AV → Heap → Prop) : KQ := (AExit.blockK 0 (k38_0 B cl n Q))
def k38_2 (B : Base) (cl : CallK) (n : Nat) (Q : AV → Heap → Prop) : KQ := (AExit.thenK (fun e h => awC B cl (ALoop n) c38_5 e h (k38_1 B cl n Q)) (k38_1 B cl n Q))
def k38_3 (B : Base) (cl : CallK) (n : Nat) (Q : AV → Heap → Prop) : KQ := (AExit.thenK (fun e h => awC B cl (ALoop n) c38_4 e h (k38_1 B cl n Q)) (k38_1 B cl n Q))
def J38_9 (B : Base) (cl : CallK) (n : Nat) (x0 : Int) (x3 : AV) (H : Heap) (Q : AV → Heap → Prop) : Prop := awC B cl (ALoop n) c38_9 (ev 83 [(0, .int .i64 x0), (3, x3)]) H (fnQ B a38 (tidyK n Q))
def J38_8 (B : Base) (cl : CallK) (n : Nat) (x0 : Int) (x3 x5 : AV) (H : Heap) (Q : AV → Heap → Prop) : Prop := awC B cl (ALoop n) c38_8 (ev 83 [(0, .int .i64 x0), (3, x3), (5, x5)]) H (fnQ B a38 (tidyK n Q))
def J38_7 (B : Base) (cl : CallK) (n : Nat) (x0 : Int) (x3 x5 x6 : AV) (H : Heap) (Q : AV → Heap → Prop) : Prop := awC B cl (ALoop n) c38_7 (ev 83 [(0, .int .i64 x0), (3, x3), (5, x5), (6, x6)]) H (fnQ B a38 (tidyK n Q))
def J38_2 (B : Base) (cl : CallK) (n : Nat) (x0 : Int) (x3 x6 x19 : AV) (H : Heap) (Q : AV → Heap → Prop) : Prop := awC B cl (ALoop n) c38_2 (ev 83 [(0, .int .i64 x0), (3, x3), (6, x6), (19, x19)]) H (k38_2 B cl n Q)
def J38_5 (B : Base) (cl : CallK) (n : Nat) (x0 : Int) (x3 x19 : AV) (H : Heap) (Q : AV → Heap → Prop) : Prop := awC B cl (ALoop n) c38_5 (ev 83 [(0, .int .i64 x0), (3, x3), (19, x19)]) H (k38_1 B cl n Q)
def J38_1 (B : Base) (cl : CallK) (n : Nat) (x0 : Int) (x3 x6 x19 : AV) (H : Heap) (Q : AV → Heap → Prop) : Prop := awC B cl (ALoop n) c38_1 (ev 83 [(0, .int .i64 x0), (3, x3), (6, x6), (19, x19)]) H (k38_2 B cl n Q)
def J38_3 (B : Base) (cl : CallK) (n : Nat) (x0 : Int) (x3 x54 : AV) (H : Heap) (Q : AV → Heap → Prop) : Prop := awC B cl (ALoop n) c38_3 (ev 83 [(0, .int .i64 x0), (3, x3), (54, x54)]) H (k38_3 B cl n Q)
def J38_0 (B : Base) (cl : CallK) (n : Nat) (x0 : Int) (x3 x19 : AV) (H : Heap) (Q : AV → Heap → Prop) : Prop := awC B cl (ALoop n) c38_0 (ev 83 [(0, .int .i64 x0), (3, x3), (19, x19)]) H (k38_2 B cl n Q)
def J38_4 (B : Base) (cl : CallK) (n : Nat) (x54 : AV) (H : Heap) (Q : AV → Heap → Prop) : Prop := awC B cl (ALoop n) c38_4 (ev 83 [(54, x54)]) H (k38_1 B cl n Q)
def J38_6 (B : Base) (cl : CallK) (n : Nat)  (H : Heap) (Q : AV → Heap → Prop) : Prop := awC B cl (ALoop n) c38_6 (ev 83 []) H (fnQ B a38 (tidyK n Q))
theorem J38_9_in {B : Base} {cl : CallK} {n : Nat} {x0 : Int} {x3 : AV} {H : Heap} {Q : AV → Heap → Prop} (h :
  bs ((x0 : Int) == 1) (J38_8 B cl n x0 x3 (.bool true) H Q) (ibinK .eql .i64 x0 6 fun v3 => J38_8 B cl n x0 x3 v3 H Q)) : J38_9 B cl n x0 x3 H Q := (awC_keep (l := l38_9) (a := b38_9)).2 (Eq.mpr (by kernel_rfl) h)
theorem J38_8_in {B : Base} {cl : CallK} {n : Nat} {x0 : Int} {x3 x5 : AV} {H : Heap} {Q : AV → Heap → Prop} (h :
  bs ((x0 : Int) == 4) (J38_7 B cl n x0 x3 x5 (.bool true) H Q) (ibinK .eql .i64 x0 5 fun v4 => J38_7 B cl n x0 x3 x5 v4 H Q)) : J38_8 B cl n x0 x3 x5 H Q := (awC_keep (l := l38_8) (a := b38_8)).2 (Eq.mpr (by kernel_rfl) h)
theorem J38_7_in {B : Base} {cl : CallK} {n : Nat} {x0 : Int} {x3 x5 x6 : AV} {H : Heap} {Q : AV → Heap → Prop} (h :
  (aop B E0 H (fun v5 _ => ob (peek B H v5) fun c6 => pInt .i64 c6 fun n7 => bs ((n7 : Int) != 0) ((aop B E0 H (fun v8 _ => J38_2 B cl n x0 x3 x6 v8 H Q) (.not (.const x5)))) (J38_2 B cl n x0 x3 x6 (.bool false) H Q)) (.fieldPtr 1 (.const x3)))) : J38_7 B cl n x0 x3 x5 x6 H Q := (awC_keep (l := l38_7) (a := b38_7)).2 (Eq.mpr (by kernel_rfl) h)
theorem J38_2_in {B : Base} {cl : CallK} {n : Nat} {x0 : Int} {x3 x6 x19 : AV} {H : Heap} {Q : AV → Heap → Prop} (h :
  pBool x19 fun b9 => (if b9 = true then J38_5 B cl n x0 x3 x19 H Q else (aop B E0 H (fun v10 _ => ob (peek B H v10) fun c11 => pInt .i64 c11 fun n12 => bs ((n12 : Int) != 0) (pBool x6 fun b13 => bs b13 (J38_1 B cl n x0 x3 x6 (.bool false) H Q) (ibinK .neq .i64 x0 6 fun v14 => J38_1 B cl n x0 x3 x6 v14 H Q)) (J38_1 B cl n x0 x3 x6 (.bool false) H Q)) (.fieldPtr 2 (.const x3))))) : J38_2 B cl n x0 x3 x6 x19 H Q := (awC_keep (l := l38_2) (a := b38_2)).2 (Eq.mpr (by kernel_rfl) h)
theorem J38_5_in {B : Base} {cl : CallK} {n : Nat} {x0 : Int} {x3 x19 : AV} {H : Heap} {Q : AV → Heap → Prop} (h :
  pBool x19 fun b15 => (if b15 = true then tidyK n Q (.bool false) H else (aop B E0 H (fun v16 _ => (aop B E0 H (fun v17 _ => ob (peek B H v17) fun c18 => pLive c18 fun v19 => ob (lenOf v19) fun k20 => (aop B E0 H (fun v21 _ => (aop B E0 H (fun v22 _ => ob (peek B H v22) fun c23 => pLive c23 fun v24 => ob (lenOf v24) fun k25 => bs (decide ((IntKind.i64.wrap ((k20 : Int) + (k25 : Int)) : Int) > 0)) (ibinK .neq .i64 x0 2 fun v26 => J38_3 B cl n x0 x3 v26 H Q) (J38_3 B cl n x0 x3 (.bool false) H Q)) (.fieldPtr 1 (.const v21)))) (.fieldPtr 3 (.const x3)))) (.fieldPtr 0 (.const v16)))) (.fieldPtr 3 (.const x3))))) : J38_5 B cl n x0 x3 x19 H Q := (awC_keep (l := l38_5) (a := b38_5)).2 (Eq.mpr (by kernel_rfl) h)
theorem J38_1_in {B : Base} {cl : CallK} {n : Nat} {x0 : Int} {x3 x6 x19 : AV} {H : Heap} {Q : AV → Heap → Prop} (h :
  pBool x19 fun b27 => (if b27 = true then J38_5 B cl n x0 x3 x19 H Q else (aop B E0 H (fun v28 _ => ob (peek B H v28) fun c29 => pLive c29 fun v30 => ob (lenOf v30) fun k31 => bs (decide (((k31 : Int) : Int) > 0)) ((aop B E0 H (fun v32 _ => J38_0 B cl n x0 x3 v32 H Q) (.not (.const x6)))) (J38_0 B cl n x0 x3 (.bool false) H Q)) (.fieldPtr 7 (.const x3))))) : J38_1 B cl n x0 x3 x6 x19 H Q := (awC_keep (l := l38_1) (a := b38_1)).2 (Eq.mpr (by kernel_rfl) h)
theorem J38_3_in {B : Base} {cl : CallK} {n : Nat} {x0 : Int} {x3 x54 : AV} {H : Heap} {Q : AV → Heap → Prop} (h :
  pBool x54 fun b33 => (if b33 = true then J38_4 B cl n x54 H Q else (aop B E0 H (fun v34 _ => (aop B E0 H (fun v35 _ => ob (peek B H v35) fun c36 => pLive c36 fun v37 => ob (lenOf v37) fun k38 => (aop B E0 H (fun v39 _ => (aop B E0 H (fun v40 _ => ob (peek B H v40) fun c41 => pLive c41 fun v42 => ob (lenOf v42) fun k43 => bs (decide ((IntKind.i64.wrap ((k38 : Int) + (k43 : Int)) : Int) > 0)) (ibinK .neq .i64 x0 3 fun v44 => J38_4 B cl n v44 H Q) (J38_4 B cl n (.bool false) H Q)) (.fieldPtr 1 (.const v39)))) (.fieldPtr 5 (.const x3)))) (.fieldPtr 0 (.const v34)))) (.fieldPtr 5 (.const x3))))) : J38_3 B cl n x0 x3 x54 H Q := (awC_keep (l := l38_3) (a := b38_3)).2 (Eq.mpr (by kernel_rfl) h)
theorem J38_0_in {B : Base} {cl : CallK} {n : Nat} {x0 : Int} {x3 x19 : AV} {H : Heap} {Q : AV → Heap → Prop} (h :
  pBool x19 fun b45 => (if b45 = true then J38_5 B cl n x0 x3 x19 H Q else (aop B E0 H (fun v46 _ => ob (peek B H v46) fun c47 => pLive c47 fun v48 => ob (lenOf v48) fun k49 => bs (decide (((k49 : Int) : Int) > 0)) (ibinK .neq .i64 x0 5 fun v50 => J38_5 B cl n x0 x3 v50 H Q) (J38_5 B cl n x0 x3 (.bool false) H Q)) (.fieldPtr 8 (.const x3))))) : J38_0 B cl n x0 x3 x19 H Q := (awC_keep (l := l38_0) (a := b38_0)).2 (Eq.mpr (by kernel_rfl) h)
theorem J38_4_in {B : Base} {cl : CallK} {n : Nat} {x54 : AV} {H : Heap} {Q : AV → Heap → Prop} (h :
  pBool x54 fun b51 => (if b51 = true then tidyK n Q (.bool false) H else J38_6 B cl n H Q)) : J38_4 B cl n x54 H Q := (awC_keep (l := l38_4) (a := b38_4)).2 (Eq.mpr (by kernel_rfl) h)
theorem J38_6_in {B : Base} {cl : CallK} {n : Nat}  {H : Heap} {Q : AV → Heap → Prop} (h :
  tidyK n Q (.bool true) H) : J38_6 B cl n  H Q := (awC_keep (l := l38_6) (a := b38_6)).2 (Eq.mpr (by kernel_rfl) h)
theorem f38_in {B : Base} {x0 : Int} {x1 : AV} {H : Heap} {Q : AV → Heap → Prop} (h : ∀ n cl, n = H.length → cl = Cl B → LowH n H → LowL n [.int .i64 x0, x1] →
  (aop B E0 H (fun v1 H2 => J38_9 B cl n x0 v1 H2 Q) (.box 9 (.const x1)))) : Cl B 38 [.int .i64 x0, x1] H Q := ACall.intro rfl fun h1 h2 => by
    have h3 := h _ _ rfl rfl h1 h2
    exact (Eq.mpr (by kernel_rfl) h3)

def k39_0 (B : Base) (cl : CallK) (n : Nat) (Q : AV → Heap → Prop) : KQ := (AExit.blockK 0 (fnQ B a39 (tidyK n Q)))
def L39_0 (B : Base) (cl : CallK) (n : Nat) (x3 x20 : AV) (x21 x22 : Int) (H : Heap) (Q : AV → Heap → Prop) : Prop := awC B cl (ALoop n) c39_0 (ev 30 [(3, x3), (20, x20), (21, .int .i64 x21), (22, .int .i64 x22)]) H (k39_0 B cl n Q)
theorem L39_0_in {B : Base} {cl : CallK} {n : Nat} {x3 x20 : AV} {x21 x22 : Int} {H : Heap} {Q : AV → Heap → Prop} (hcl : CLe cl cl) (h :
  bs (decide ((x22 : Int) < x21)) ((aop B E0 H (fun v11 _ => ob (peekN B H 7 v11) fun c12 => (aop B E0 H (fun v13 H14 => (aop B E0 H14 (fun v15 H16 => ob (peekN B H16 7 v13) fun c17 => calleeK B E0 H16 [.agg c17] (fun g20 z21 => cl g20 z21 H16 fun v18 H19 => pLive v18 fun v22 => L39_0 B cl n x3 x20 x21 (IntKind.i64.wrap (x22 + 1)) H19 Q) (.val (.const x3))) (.st 7 (.const v13) (.const (.agg c12))))) (.alloc [(.bool false), (.int .i64 0), .nils, .nils, (.int .i64 0), .nils, .nils]))) (.indexPtr 7 (.const x20) (.const (.int .i64 x22))))) (tidyK n Q (.tuple []) H)) : L39_0 B cl n x3 x20 x21 x22 H Q := ALoop.round2 (l := l39_0) (a := b39_0) hcl rfl (Eq.mpr (by kernel_rfl) h)
theorem f39_in {B : Base} {x0 x1 : AV} {x2 : Int} {x3 : AV} {H : Heap} {Q : AV → Heap → Prop} (h : ∀ n cl, n = H.length → cl = Cl B → LowH n H → LowL n [x0, x1, .int .i64 x2, x3] →
  ob (lenOf x1) fun k1 => ibinK .leq .i64 (k1 : Int) x2 fun v2 => cl 25 [x0, v2] H fun v3 H4 => pLive v3 fun v5 => ob (lenOf x1) fun k6 => cl 29 [x0, .int .i64 (k6 : Int)] H4 fun v7 H8 => pLive v7 fun v9 => ob (lenOf x1) fun k10 => L39_0 B cl n x3 x1 (k10 : Int) 0 H8 Q) : Cl B 39 [x0, x1, .int .i64 x2, x3] H Q := ACall.intro rfl fun h1 h2 => by
    have h3 := h _ _ rfl rfl h1 h2
    exact (Eq.mpr (by kernel_rfl) h3)

theorem f40_in {B : Base} {x0 x1 : AV} {H : Heap} {Q : AV → Heap → Prop} (h : ∀ n cl, n = H.length → cl = Cl B → LowH n H → LowL n [x0, x1] →
  (aop B E0 H (fun v1 H2 => (aop B E0 H2 (fun v3 _ => ob (peek B H2 v3) fun c4 => tyK .bool c4 fun v5 => cl 67 [x0, v5] H2 fun v6 H7 => pLive v6 fun v8 => (aop B E0 H7 (fun v9 _ => ob (peekN B H7 3 v9) fun c10 => cl 68 [x0, .agg c10] H7 fun v11 H12 => pLive v11 fun v13 => (aop B E0 H12 (fun v14 _ => ob (peek B H12 v14) fun c15 => pBool c15 fun b16 => bs b16 ((aop B E0 H12 (fun v17 _ => ob (peekN B H12 3 v17) fun c18 => cl 68 [x0, .agg c18] H12 fun v19 H20 => pLive v19 fun v21 => tidyK n Q (.tuple []) H20) (.fieldPtr 4 (.const v1)))) ((aop B E0 H12 (fun v22 _ => ob (peekN B H12 3 v22) fun c23 => cl 69 [.agg c23] H12 fun v24 H25 => tyK .bool v24 fun v26 => cl 25 [x0, v26] H25 fun v27 H28 => pLive v27 fun v29 => tidyK n Q (.tuple []) H28) (.fieldPtr 4 (.const v1))))) (.fieldPtr 0 (.const v1)))) (.fieldPtr 1 (.const v1)))) (.fieldPtr 0 (.const v1)))) (.box 7 (.const x1)))) : Cl B 40 [x0, x1] H Q := ACall.intro rfl fun h1 h2 => by
    have h3 := h _ _ rfl rfl h1 h2
    exact (Eq.mpr (by kernel_rfl) h3)

def k41_0 (B : Base) (cl : CallK) (n : Nat) (Q : AV → Heap → Prop) : KQ := (AExit.blockK 0 (fnQ B a41 (tidyK n Q)))
def L41_0 (B : Base) (cl : CallK) (n : Nat) (x3 x20 : AV) (x21 x22 : Int) (H : Heap) (Q : AV → Heap → Prop) : Prop := awC B cl (ALoop n) c41_0 (ev 30 [(3, x3), (20, x20), (21, .int .i64 x21), (22, .int .i64 x22)]) H (k41_0 B cl n Q)
theorem L41_0_in {B : Base} {cl : CallK} {n : Nat} {x3 x20 : AV} {x21 x22 : Int} {H : Heap} {Q : AV → Heap → Prop} (hcl : CLe cl cl) (h :
  bs (decide ((x22 : Int) < x21)) ((aop B E0 H (fun v11 _ => ob (peekN B H 3 v11) fun c12 => (aop B E0 H (fun v13 H14 => (aop B E0 H14 (fun v15 H16 => ob (peekN B H16 3 v13) fun c17 => calleeK B E0 H16 [.agg c17] (fun g20 z21 => cl g20 z21 H16 fun v18 H19 => pLive v18 fun v22 => L41_0 B cl n x3 x20 x21 (IntKind.i64.wrap (x22 + 1)) H19 Q) (.val (.const x3))) (.st 3 (.const v13) (.const (.agg c12))))) (.alloc [(.int .i64 0), .nils, .nils]))) (.indexPtr 3 (.const x20) (.const (.int .i64 x22))))) (tidyK n Q (.tuple []) H)) : L41_0 B cl n x3 x20 x21 x22 H Q := ALoop.round2 (l := l41_0) (a := b41_0) hcl rfl (Eq.mpr (by kernel_rfl) h)
theorem f41_in {B : Base} {x0 x1 : AV} {x2 : Int} {x3 : AV} {H : Heap} {Q : AV → Heap → Prop} (h : ∀ n cl, n = H.length → cl = Cl B → LowH n H → LowL n [x0, x1, .int .i64 x2, x3] →
  ob (lenOf x1) fun k1 => ibinK .leq .i64 (k1 : Int) x2 fun v2 => cl 25 [x0, v2] H fun v3 H4 => pLive v3 fun v5 => ob (lenOf x1) fun k6 => cl 29 [x0, .int .i64 (k6 : Int)] H4 fun v7 H8 => pLive v7 fun v9 => ob (lenOf x1) fun k10 => L41_0 B cl n x3 x1 (k10 : Int) 0 H8 Q) : Cl B 41 [x0, x1, .int .i64 x2, x3] H Q := ACall.intro rfl fun h1 h2 => by
    have h3 := h _ _ rfl rfl h1 h2
    exact (Eq.mpr (by kernel_rfl) h3)

theorem f42_in {B : Base} {x0 x1 : AV} {H : Heap} {Q : AV → Heap → Prop} (h : ∀ n cl, n = H.length → cl = Cl B → LowH n H → LowL n [x0, x1] →
  (aop B E0 H (fun v1 H2 => (aop B E0 H2 (fun v3 H4 => ob (peek B H4 v1) fun c5 => pLive c5 fun v6 => (aop B E0 H4 (fun v7 _ => ob (peek B H4 v7) fun c8 => pInt .i64 c8 fun n9 => cl 29 [v6, .int .i64 n9] H4 fun v10 H11 => pLive v10 fun v12 => ob (peek B H11 v1) fun c13 => pLive c13 fun v14 => (aop B E0 H11 (fun v15 _ => ob (peek B H11 v15) fun c16 => pLive c16 fun v17 => cl 70 [v14, v17, .int .i64 64, .func (.func 71) [] [v1]] H11 fun v18 H19 => pLive v18 fun v20 => ob (peek B H19 v1) fun c21 => pLive c21 fun v22 => (aop B E0 H19 (fun v23 _ => ob (peek B H19 v23) fun c24 => pLive c24 fun v25 => ob (peek B H19 v1) fun c26 => pLive c26 fun v27 => cl 72 [v22, v25, .int .i64 64, .func (.func 73) [v27] []] H19 fun v28 H29 => pLive v28 fun v30 => tidyK n Q (.tuple []) H29) (.fieldPtr 2 (.const v3)))) (.fieldPtr 1 (.const v3)))) (.fieldPtr 0 (.const v3)))) (.box 3 (.const x1)))) (.box 1 (.const x0)))) : Cl B 42 [x0, x1] H Q := ACall.intro rfl fun h1 h2 => by
    have h3 := h _ _ rfl rfl h1 h2
    exact (Eq.mpr (by kernel_rfl) h3)

def k43_0 (B : Base) (cl : CallK) (n : Nat) (Q : AV → Heap → Prop) : KQ := (AExit.blockK 0 (fnQ B a43 (tidyK n Q)))
def L43_0 (B : Base) (cl : CallK) (n : Nat) (x3 x20 : AV) (x21 x22 : Int) (H : Heap) (Q : AV → Heap → Prop) : Prop := awC B cl (ALoop n) c43_0 (ev 30 [(3, x3), (20, x20), (21, .int .i64 x21), (22, .int .i64 x22)]) H (k43_0 B cl n Q)
theorem L43_0_in {B : Base} {cl : CallK} {n : Nat} {x3 x20 : AV} {x21 x22 : Int} {H : Heap} {Q : AV → Heap → Prop} (hcl : CLe cl cl) (h :
  bs (decide ((x22 : Int) < x21)) ((aop B E0 H (fun v11 _ => ob (peek B H v11) fun c12 => pLive c12 fun v13 => calleeK B E0 H [v13] (fun g16 z17 => cl g16 z17 H fun v14 H15 => pLive v14 fun v18 => L43_0 B cl n x3 x20 x21 (IntKind.i64.wrap (x22 + 1)) H15 Q) (.val (.const x3))) (.indexPtr 1 (.const x20) (.const (.int .i64 x22))))) (tidyK n Q (.tuple []) H)) : L43_0 B cl n x3 x20 x21 x22 H Q := ALoop.round2 (l := l43_0) (a := b43_0) hcl rfl (Eq.mpr (by kernel_rfl) h)
theorem f43_in {B : Base} {x0 x1 : AV} {x2 : Int} {x3 : AV} {H : Heap} {Q : AV → Heap → Prop} (h : ∀ n cl, n = H.length → cl = Cl B → LowH n H → LowL n [x0, x1, .int .i64 x2, x3] →
  ob (lenOf x1) fun k1 => ibinK .leq .i64 (k1 : Int) x2 fun v2 => cl 25 [x0, v2] H fun v3 H4 => pLive v3 fun v5 => ob (lenOf x1) fun k6 => cl 29 [x0, .int .i64 (k6 : Int)] H4 fun v7 H8 => pLive v7 fun v9 => ob (lenOf x1) fun k10 => L43_0 B cl n x3 x1 (k10 : Int) 0 H8 Q) : Cl B 43 [x0, x1, .int .i64 x2, x3] H Q := ACall.intro rfl fun h1 h2 => by
    have h3 := h _ _ rfl rfl h1 h2
    exact (Eq.mpr (by kernel_rfl) h3)

theorem f44_in {B : Base} {x0 x1 : AV} {H : Heap} {Q : AV → Heap → Prop} (h : ∀ n cl, n = H.length → cl = Cl B → LowH n H → LowL n [x0, x1] →
  cl 26 [x0, x1, .int .i64 64, .func (.func 27) [x0] []] H fun v1 H2 => pLive v1 fun v3 => tidyK n Q (.tuple []) H2) : Cl B 44 [x0, x1] H Q := ACall.intro rfl fun h1 h2 => by
    have h3 := h _ _ rfl rfl h1 h2
    exact (Eq.mpr (by kernel_rfl) h3)


end Go.Am
