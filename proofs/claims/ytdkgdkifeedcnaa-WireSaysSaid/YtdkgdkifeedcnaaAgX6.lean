/- What the functions of the seat do, from label to label. -/
import Derived.Test.YtdkgdkifeedcnaaAf
namespace Go.Am
open Go
set_option maxRecDepth 100000
def k46_0 (B : Base) (cl : CallK) (n : Nat) (Q : AV → Heap → Prop) : KQ := (AExit.thenK (fun e h => awC B cl (ALoop n) (.seq (.seq (.ops [⟨(some 5), none, (.op (.mov (.const (.int .i64 0))))⟩]) (.block 0 c46_3)) c46_4) e h (fnQ B a46 (tidyK n Q))) (fnQ B a46 (tidyK n Q)))
def k46_1 (B : Base) (cl : CallK) (n : Nat) (Q : AV → Heap → Prop) : KQ := (AExit.thenK (fun e h => awC B cl (ALoop n) c46_4 e h (fnQ B a46 (tidyK n Q))) (fnQ B a46 (tidyK n Q)))
def k46_2 (B : Base) (cl : CallK) (n : Nat) (Q : AV → Heap → Prop) : KQ := (AExit.blockK 0 (k46_1 B cl n Q))
def k46_3 (B : Base) (cl : CallK) (n : Nat) (Q : AV → Heap → Prop) : KQ := (AExit.thenK (fun e h => awC B cl (ALoop n) c46_3 e h (k46_2 B cl n Q)) (k46_2 B cl n Q))
def k46_4 (B : Base) (cl : CallK) (n : Nat) (Q : AV → Heap → Prop) : KQ := (AExit.thenK (fun e h => awC B cl (ALoop n) (.ops [⟨(some 28), none, (.op (.mov (.tmp 5)))⟩, ⟨(some 29), none, (.op (.ibin .add .i64 (.tmp 28) (.const (.int .i64 1))))⟩, ⟨(some 5), none, (.op (.mov (.tmp 29)))⟩]) e h (k46_3 B cl n Q)) (k46_3 B cl n Q))
def k46_5 (B : Base) (cl : CallK) (n : Nat) (Q : AV → Heap → Prop) : KQ := (AExit.blockK 1 (k46_4 B cl n Q))
def J46_5 (B : Base) (cl : CallK) (n : Nat) (x2 x3 : AV) (H : Heap) (Q : AV → Heap → Prop) : Prop := awC B cl (ALoop n) c46_5 (ev 43 [(2, x2), (3, x3)]) H (fnQ B a46 (tidyK n Q))
def J46_0 (B : Base) (cl : CallK) (n : Nat) (x2 x3 x22 : AV) (H : Heap) (Q : AV → Heap → Prop) : Prop := awC B cl (ALoop n) c46_0 (ev 43 [(2, x2), (3, x3), (22, x22)]) H (k46_0 B cl n Q)
def L46_3 (B : Base) (cl : CallK) (n : Nat) (x2 x3 : AV) (x5 : Int) (H : Heap) (Q : AV → Heap → Prop) : Prop := awC B cl (ALoop n) c46_3 (ev 43 [(2, x2), (3, x3), (5, .int .i64 x5)]) H (k46_2 B cl n Q)
def J46_2 (B : Base) (cl : CallK) (n : Nat) (x2 x3 : AV) (x5 : Int) (H : Heap) (Q : AV → Heap → Prop) : Prop := awC B cl (ALoop n) c46_2 (ev 43 [(2, x2), (3, x3), (5, .int .i64 x5)]) H (k46_3 B cl n Q)
def J46_4 (B : Base) (cl : CallK) (n : Nat)  (H : Heap) (Q : AV → Heap → Prop) : Prop := awC B cl (ALoop n) c46_4 (ev 43 []) H (fnQ B a46 (tidyK n Q))
def J46_1 (B : Base) (cl : CallK) (n : Nat) (x2 x3 : AV) (x5 : Int) (x6 : AV) (H : Heap) (Q : AV → Heap → Prop) : Prop := awC B cl (ALoop n) c46_1 (ev 43 [(2, x2), (3, x3), (5, .int .i64 x5), (6, x6)]) H (k46_5 B cl n Q)
theorem J46_5_in {B : Base} {cl : CallK} {n : Nat} {x2 x3 : AV} {H : Heap} {Q : AV → Heap → Prop} (h :
  (aop B E0 H (fun v5 _ => ob (peek B H v5) fun c6 => pLive c6 fun v7 => (aop B E0 H (fun v8 _ => (aop B E0 H (fun v9 _ => ob (peek B H v9) fun c10 => pLive c10 fun v11 => (aop B E0 H (fun v12 _ => pStr v8 fun s13 => pStr v12 fun s14 => bs (!(s13 == s14)) (J46_0 B cl n x2 x3 (.bool true) H Q) ((aop B E0 H (fun v15 _ => ob (peek B H v15) fun c16 => pLive c16 fun v17 => ob (lenOf v17) fun k18 => (aop B E0 H (fun v19 _ => ob (peek B H v19) fun c20 => pLive c20 fun v21 => ob (lenOf v21) fun k22 => ibinK .neq .i64 (k18 : Int) (k22 : Int) fun v23 => J46_0 B cl n x2 x3 v23 H Q) (.fieldPtr 1 (.const x3)))) (.fieldPtr 1 (.const x2))))) (.toStr (.const v11)))) (.fieldPtr 0 (.const x3)))) (.toStr (.const v7)))) (.fieldPtr 0 (.const x2)))) : J46_5 B cl n x2 x3 H Q := (awC_keep (l := l46_5) (a := b46_5)).2 (Eq.mpr (by kernel_rfl) h)
theorem J46_0_in {B : Base} {cl : CallK} {n : Nat} {x2 x3 x22 : AV} {H : Heap} {Q : AV → Heap → Prop} (h :
  pBool x22 fun b24 => (if b24 = true then tidyK n Q (.bool false) H else L46_3 B cl n x2 x3 0 H Q)) : J46_0 B cl n x2 x3 x22 H Q := (awC_keep (l := l46_0) (a := b46_0)).2 (Eq.mpr (by kernel_rfl) h)
theorem L46_3_in {B : Base} {cl : CallK} {n : Nat} {x2 x3 : AV} {x5 : Int} {H : Heap} {Q : AV → Heap → Prop} (hcl : CLe cl cl) (h :
  (aop B E0 H (fun v25 _ => ob (peek B H v25) fun c26 => pLive c26 fun v27 => ob (lenOf v27) fun k28 => bs (decide ((x5 : Int) < (k28 : Int))) (J46_2 B cl n x2 x3 x5 H Q) (J46_4 B cl n H Q)) (.fieldPtr 1 (.const x2)))) : L46_3 B cl n x2 x3 x5 H Q := ALoop.round2 (l := l46_3) (a := b46_3) hcl rfl (Eq.mpr (by kernel_rfl) h)
theorem J46_2_in {B : Base} {cl : CallK} {n : Nat} {x2 x3 : AV} {x5 : Int} {H : Heap} {Q : AV → Heap → Prop} (h :
  (aop B E0 H (fun v29 _ => ob (peek B H v29) fun c30 => pLive c30 fun v31 => (aop B E0 H (fun v32 _ => ob (peekN B H 7 v32) fun c33 => (aop B E0 H (fun v34 _ => ob (peek B H v34) fun c35 => pLive c35 fun v36 => (aop B E0 H (fun v37 _ => ob (peekN B H 7 v37) fun c38 => cl 76 [.agg c33, .agg c38] H fun v39 H40 => tyK .bool v39 fun v41 => J46_1 B cl n x2 x3 x5 v41 H40 Q) (.indexPtr 7 (.const v36) (.const (.int .i64 x5))))) (.fieldPtr 1 (.const x3)))) (.indexPtr 7 (.const v31) (.const (.int .i64 x5))))) (.fieldPtr 1 (.const x2)))) : J46_2 B cl n x2 x3 x5 H Q := (awC_keep (l := l46_2) (a := b46_2)).2 (Eq.mpr (by kernel_rfl) h)
theorem J46_4_in {B : Base} {cl : CallK} {n : Nat}  {H : Heap} {Q : AV → Heap → Prop} (h :
  tidyK n Q (.bool true) H) : J46_4 B cl n  H Q := (awC_keep (l := l46_4) (a := b46_4)).2 (Eq.mpr (by kernel_rfl) h)
theorem J46_1_in {B : Base} {cl : CallK} {n : Nat} {x2 x3 : AV} {x5 : Int} {x6 : AV} {H : Heap} {Q : AV → Heap → Prop} (h :
  pBool x6 fun b42 => bs b42 (L46_3 B cl n x2 x3 (IntKind.i64.wrap (x5 + 1)) H Q) (tidyK n Q (.bool false) H)) : J46_1 B cl n x2 x3 x5 x6 H Q := (awC_keep (l := l46_1) (a := b46_1)).2 (Eq.mpr (by kernel_rfl) h)
theorem f46_in {B : Base} {x0 x1 : AV} {H : Heap} {Q : AV → Heap → Prop} (h : ∀ n cl, n = H.length → cl = Cl B → LowH n H → LowL n [x0, x1] →
  (aop B E0 H (fun v1 H2 => (aop B E0 H2 (fun v3 H4 => J46_5 B cl n v1 v3 H4 Q) (.box 2 (.const x1)))) (.box 2 (.const x0)))) : Cl B 46 [x0, x1] H Q := ACall.intro rfl fun h1 h2 => by
    have h3 := h _ _ rfl rfl h1 h2
    exact (Eq.mpr (by kernel_rfl) h3)

def k47_0 (B : Base) (cl : CallK) (n : Nat) (Q : AV → Heap → Prop) : KQ := (AExit.thenK (fun e h => awC B cl (ALoop n) (.seq (.seq (.ops [⟨(some 5), none, (.op (.mov (.const (.int .i64 0))))⟩]) (.block 0 c47_3)) c47_4) e h (fnQ B a47 (tidyK n Q))) (fnQ B a47 (tidyK n Q)))
def k47_1 (B : Base) (cl : CallK) (n : Nat) (Q : AV → Heap → Prop) : KQ := (AExit.thenK (fun e h => awC B cl (ALoop n) c47_4 e h (fnQ B a47 (tidyK n Q))) (fnQ B a47 (tidyK n Q)))
def k47_2 (B : Base) (cl : CallK) (n : Nat) (Q : AV → Heap → Prop) : KQ := (AExit.blockK 0 (k47_1 B cl n Q))
def k47_3 (B : Base) (cl : CallK) (n : Nat) (Q : AV → Heap → Prop) : KQ := (AExit.thenK (fun e h => awC B cl (ALoop n) c47_3 e h (k47_2 B cl n Q)) (k47_2 B cl n Q))
def k47_4 (B : Base) (cl : CallK) (n : Nat) (Q : AV → Heap → Prop) : KQ := (AExit.thenK (fun e h => awC B cl (ALoop n) (.ops [⟨(some 28), none, (.op (.mov (.tmp 5)))⟩, ⟨(some 29), none, (.op (.ibin .add .i64 (.tmp 28) (.const (.int .i64 1))))⟩, ⟨(some 5), none, (.op (.mov (.tmp 29)))⟩]) e h (k47_3 B cl n Q)) (k47_3 B cl n Q))
def k47_5 (B : Base) (cl : CallK) (n : Nat) (Q : AV → Heap → Prop) : KQ := (AExit.blockK 1 (k47_4 B cl n Q))
def J47_5 (B : Base) (cl : CallK) (n : Nat) (x2 x3 : AV) (H : Heap) (Q : AV → Heap → Prop) : Prop := awC B cl (ALoop n) c47_5 (ev 43 [(2, x2), (3, x3)]) H (fnQ B a47 (tidyK n Q))
def J47_0 (B : Base) (cl : CallK) (n : Nat) (x2 x3 x22 : AV) (H : Heap) (Q : AV → Heap → Prop) : Prop := awC B cl (ALoop n) c47_0 (ev 43 [(2, x2), (3, x3), (22, x22)]) H (k47_0 B cl n Q)
def L47_3 (B : Base) (cl : CallK) (n : Nat) (x2 x3 : AV) (x5 : Int) (H : Heap) (Q : AV → Heap → Prop) : Prop := awC B cl (ALoop n) c47_3 (ev 43 [(2, x2), (3, x3), (5, .int .i64 x5)]) H (k47_2 B cl n Q)
def J47_2 (B : Base) (cl : CallK) (n : Nat) (x2 x3 : AV) (x5 : Int) (H : Heap) (Q : AV → Heap → Prop) : Prop := awC B cl (ALoop n) c47_2 (ev 43 [(2, x2), (3, x3), (5, .int .i64 x5)]) H (k47_3 B cl n Q)
def J47_4 (B : Base) (cl : CallK) (n : Nat)  (H : Heap) (Q : AV → Heap → Prop) : Prop := awC B cl (ALoop n) c47_4 (ev 43 []) H (fnQ B a47 (tidyK n Q))
def J47_1 (B : Base) (cl : CallK) (n : Nat) (x2 x3 : AV) (x5 : Int) (x6 : AV) (H : Heap) (Q : AV → Heap → Prop) : Prop := awC B cl (ALoop n) c47_1 (ev 43 [(2, x2), (3, x3), (5, .int .i64 x5), (6, x6)]) H (k47_5 B cl n Q)
theorem J47_5_in {B : Base} {cl : CallK} {n : Nat} {x2 x3 : AV} {H : Heap} {Q : AV → Heap → Prop} (h :
  (aop B E0 H (fun v5 _ => ob (peek B H v5) fun c6 => pLive c6 fun v7 => (aop B E0 H (fun v8 _ => (aop B E0 H (fun v9 _ => ob (peek B H v9) fun c10 => pLive c10 fun v11 => (aop B E0 H (fun v12 _ => pStr v8 fun s13 => pStr v12 fun s14 => bs (!(s13 == s14)) (J47_0 B cl n x2 x3 (.bool true) H Q) ((aop B E0 H (fun v15 _ => ob (peek B H v15) fun c16 => pLive c16 fun v17 => ob (lenOf v17) fun k18 => (aop B E0 H (fun v19 _ => ob (peek B H v19) fun c20 => pLive c20 fun v21 => ob (lenOf v21) fun k22 => ibinK .neq .i64 (k18 : Int) (k22 : Int) fun v23 => J47_0 B cl n x2 x3 v23 H Q) (.fieldPtr 1 (.const x3)))) (.fieldPtr 1 (.const x2))))) (.toStr (.const v11)))) (.fieldPtr 0 (.const x3)))) (.toStr (.const v7)))) (.fieldPtr 0 (.const x2)))) : J47_5 B cl n x2 x3 H Q := (awC_keep (l := l47_5) (a := b47_5)).2 (Eq.mpr (by kernel_rfl) h)
theorem J47_0_in {B : Base} {cl : CallK} {n : Nat} {x2 x3 x22 : AV} {H : Heap} {Q : AV → Heap → Prop} (h :
  pBool x22 fun b24 => (if b24 = true then tidyK n Q (.bool false) H else L47_3 B cl n x2 x3 0 H Q)) : J47_0 B cl n x2 x3 x22 H Q := (awC_keep (l := l47_0) (a := b47_0)).2 (Eq.mpr (by kernel_rfl) h)
theorem L47_3_in {B : Base} {cl : CallK} {n : Nat} {x2 x3 : AV} {x5 : Int} {H : Heap} {Q : AV → Heap → Prop} (hcl : CLe cl cl) (h :
  (aop B E0 H (fun v25 _ => ob (peek B H v25) fun c26 => pLive c26 fun v27 => ob (lenOf v27) fun k28 => bs (decide ((x5 : Int) < (k28 : Int))) (J47_2 B cl n x2 x3 x5 H Q) (J47_4 B cl n H Q)) (.fieldPtr 1 (.const x2)))) : L47_3 B cl n x2 x3 x5 H Q := ALoop.round2 (l := l47_3) (a := b47_3) hcl rfl (Eq.mpr (by kernel_rfl) h)
theorem J47_2_in {B : Base} {cl : CallK} {n : Nat} {x2 x3 : AV} {x5 : Int} {H : Heap} {Q : AV → Heap → Prop} (h :
  (aop B E0 H (fun v29 _ => ob (peek B H v29) fun c30 => pLive c30 fun v31 => (aop B E0 H (fun v32 _ => ob (peekN B H 3 v32) fun c33 => (aop B E0 H (fun v34 _ => ob (peek B H v34) fun c35 => pLive c35 fun v36 => (aop B E0 H (fun v37 _ => ob (peekN B H 3 v37) fun c38 => cl 77 [.agg c33, .agg c38] H fun v39 H40 => tyK .bool v39 fun v41 => J47_1 B cl n x2 x3 x5 v41 H40 Q) (.indexPtr 3 (.const v36) (.const (.int .i64 x5))))) (.fieldPtr 1 (.const x3)))) (.indexPtr 3 (.const v31) (.const (.int .i64 x5))))) (.fieldPtr 1 (.const x2)))) : J47_2 B cl n x2 x3 x5 H Q := (awC_keep (l := l47_2) (a := b47_2)).2 (Eq.mpr (by kernel_rfl) h)
theorem J47_4_in {B : Base} {cl : CallK} {n : Nat}  {H : Heap} {Q : AV → Heap → Prop} (h :
  tidyK n Q (.bool true) H) : J47_4 B cl n  H Q := (awC_keep (l := l47_4) (a := b47_4)).2 (Eq.mpr (by kernel_rfl) h)
theorem J47_1_in {B : Base} {cl : CallK} {n : Nat} {x2 x3 : AV} {x5 : Int} {x6 : AV} {H : Heap} {Q : AV → Heap → Prop} (h :
  pBool x6 fun b42 => bs b42 (L47_3 B cl n x2 x3 (IntKind.i64.wrap (x5 + 1)) H Q) (tidyK n Q (.bool false) H)) : J47_1 B cl n x2 x3 x5 x6 H Q := (awC_keep (l := l47_1) (a := b47_1)).2 (Eq.mpr (by kernel_rfl) h)
theorem f47_in {B : Base} {x0 x1 : AV} {H : Heap} {Q : AV → Heap → Prop} (h : ∀ n cl, n = H.length → cl = Cl B → LowH n H → LowL n [x0, x1] →
  (aop B E0 H (fun v1 H2 => (aop B E0 H2 (fun v3 H4 => J47_5 B cl n v1 v3 H4 Q) (.box 2 (.const x1)))) (.box 2 (.const x0)))) : Cl B 47 [x0, x1] H Q := ACall.intro rfl fun h1 h2 => by
    have h3 := h _ _ rfl rfl h1 h2
    exact (Eq.mpr (by kernel_rfl) h3)

def k48_0 (B : Base) (cl : CallK) (n : Nat) (Q : AV → Heap → Prop) : KQ := (AExit.thenK (fun e h => awC B cl (ALoop n) c48_1 e h (fnQ B a48 (tidyK n Q))) (fnQ B a48 (tidyK n Q)))
def k48_1 (B : Base) (cl : CallK) (n : Nat) (Q : AV → Heap → Prop) : KQ := (AExit.blockK 0 (k48_0 B cl n Q))
def L48_0 (B : Base) (cl : CallK) (n : Nat) (x0 x2 x7 : AV) (x10 x11 : Int) (H : Heap) (Q : AV → Heap → Prop) : Prop := awC B cl (ALoop n) c48_0 (ev 24 [(0, x0), (2, x2), (7, x7), (10, .int .i64 x10), (11, .int .i64 x11)]) H (k48_1 B cl n Q)
def J48_1 (B : Base) (cl : CallK) (n : Nat) (x7 : AV) (H : Heap) (Q : AV → Heap → Prop) : Prop := awC B cl (ALoop n) c48_1 (ev 24 [(7, x7)]) H (fnQ B a48 (tidyK n Q))
def k56_0 (B : Base) (cl : CallK) (n : Nat) (Q : AV → Heap → Prop) : KQ := (AExit.blockK 0 (fnQ B a56 (tidyK n Q)))
def J56_9 (B : Base) (cl : CallK) (n : Nat) (x0 x2 : AV) (x6 : Int) (H : Heap) (Q : AV → Heap → Prop) : Prop := awC B cl (ALoop n) c56_9 (ev 85 [(0, x0), (2, x2), (6, .int .i64 x6)]) H (fnQ B a56 (tidyK n Q))
def J56_8 (B : Base) (cl : CallK) (n : Nat) (x0 x2 : AV) (x6 : Int) (x7 : AV) (H : Heap) (Q : AV → Heap → Prop) : Prop := awC B cl (ALoop n) c56_8 (ev 85 [(0, x0), (2, x2), (6, .int .i64 x6), (7, x7)]) H (k56_0 B cl n Q)
def J56_7 (B : Base) (cl : CallK) (n : Nat) (x0 x2 : AV) (x6 : Int) (x14 : AV) (H : Heap) (Q : AV → Heap → Prop) : Prop := awC B cl (ALoop n) c56_7 (ev 85 [(0, x0), (2, x2), (6, .int .i64 x6), (14, x14)]) H (k56_0 B cl n Q)
def J56_6 (B : Base) (cl : CallK) (n : Nat) (x0 x2 : AV) (x6 : Int) (x27 : AV) (H : Heap) (Q : AV → Heap → Prop) : Prop := awC B cl (ALoop n) c56_6 (ev 85 [(0, x0), (2, x2), (6, .int .i64 x6), (27, x27)]) H (k56_0 B cl n Q)
def J56_5 (B : Base) (cl : CallK) (n : Nat) (x0 x2 : AV) (x6 : Int) (x40 : AV) (H : Heap) (Q : AV → Heap → Prop) : Prop := awC B cl (ALoop n) c56_5 (ev 85 [(0, x0), (2, x2), (6, .int .i64 x6), (40, x40)]) H (k56_0 B cl n Q)
def J56_0 (B : Base) (cl : CallK) (n : Nat) (x0 x2 : AV) (H : Heap) (Q : AV → Heap → Prop) : Prop := awC B cl (ALoop n) c56_0 (ev 85 [(0, x0), (2, x2)]) H (k56_0 B cl n Q)
def J56_4 (B : Base) (cl : CallK) (n : Nat) (x0 x2 : AV) (x6 : Int) (x53 : AV) (H : Heap) (Q : AV → Heap → Prop) : Prop := awC B cl (ALoop n) c56_4 (ev 85 [(0, x0), (2, x2), (6, .int .i64 x6), (53, x53)]) H (k56_0 B cl n Q)
def J56_2 (B : Base) (cl : CallK) (n : Nat) (x0 x2 : AV) (H : Heap) (Q : AV → Heap → Prop) : Prop := awC B cl (ALoop n) c56_2 (ev 85 [(0, x0), (2, x2)]) H (k56_0 B cl n Q)
def J56_3 (B : Base) (cl : CallK) (n : Nat) (x0 x2 x73 : AV) (H : Heap) (Q : AV → Heap → Prop) : Prop := awC B cl (ALoop n) c56_3 (ev 85 [(0, x0), (2, x2), (73, x73)]) H (k56_0 B cl n Q)
def J56_1 (B : Base) (cl : CallK) (n : Nat) (x0 x2 : AV) (H : Heap) (Q : AV → Heap → Prop) : Prop := awC B cl (ALoop n) c56_1 (ev 85 [(0, x0), (2, x2)]) H (k56_0 B cl n Q)
def J59_0 (B : Base) (cl : CallK) (n : Nat) (x1 : AV) (H : Heap) (Q : AV → Heap → Prop) : Prop := awC B cl (ALoop n) c59_0 (ev 38 [(1, x1)]) H (fnQ B a59 (tidyK n Q))
theorem J59_0_in {B : Base} {cl : CallK} {n : Nat} {x1 : AV} {H : Heap} {Q : AV → Heap → Prop} (h :
  (aop B E0 H (fun v3 _ => ob (peek B H v3) fun c4 => pStr c4 fun s5 => pStr ((.str [])) fun s6 => bs (!(s5 == s6)) ((aop B E0 H (fun v7 _ => ob (peek B H v7) fun c8 => pStr c8 fun s9 => bs (decide ((((List.length s9 : Nat) : Int) : Int) ≤ 128)) ((aop B E0 H (fun v10 _ => ob (peek B H v10) fun c11 => pStr c11 fun s12 => bs (decide ((((List.length s12 : Nat) : Int) : Int) ≤ 1024)) ((aop B E0 H (fun v13 _ => ob (peek B H v13) fun c14 => pBool c14 fun b15 => bs b15 ((aop B E0 H (fun v16 _ => ob (peek B H v16) fun c17 => pStr c17 fun s18 => pStr ((.str [])) fun s19 => bs (!(s18 == s19)) (tidyK n Q (.bool false) H) ((aop B E0 H (fun v20 _ => ob (peek B H v20) fun c21 => pInt .i64 c21 fun n22 => bs (decide ((n22 : Int) ≥ 1)) ((aop B E0 H (fun v23 _ => ob (peek B H v23) fun c24 => pInt .i64 c24 fun n25 => ibinK .leq .i64 n25 1099511627776 fun v26 => tidyK n Q v26 H) (.fieldPtr 3 (.const x1)))) (tidyK n Q (.bool false) H)) (.fieldPtr 3 (.const x1))))) (.fieldPtr 1 (.const x1)))) ((aop B E0 H (fun v27 _ => ob (peek B H v27) fun c28 => pInt .i64 c28 fun n29 => bs (decide ((n29 : Int) ≥ 1)) ((aop B E0 H (fun v30 _ => ob (peek B H v30) fun c31 => pInt .i64 c31 fun n32 => ibinK .leq .i64 n32 1099511627776 fun v33 => tidyK n Q v33 H) (.fieldPtr 3 (.const x1)))) (tidyK n Q (.bool false) H)) (.fieldPtr 3 (.const x1))))) (.fieldPtr 2 (.const x1)))) (tidyK n Q (.bool false) H)) (.fieldPtr 1 (.const x1)))) (tidyK n Q (.bool false) H)) (.fieldPtr 0 (.const x1)))) (tidyK n Q (.bool false) H)) (.fieldPtr 0 (.const x1)))) : J59_0 B cl n x1 H Q := (awC_keep (l := l59_0) (a := b59_0)).2 (Eq.mpr (by kernel_rfl) h)
theorem f59_in {B : Base} {x0 : AV} {H : Heap} {Q : AV → Heap → Prop} (h : ∀ n cl, n = H.length → cl = Cl B → LowH n H → LowL n [x0] →
  (aop B E0 H (fun v1 H2 => J59_0 B cl n v1 H2 Q) (.box 4 (.const x0)))) : Cl B 59 [x0] H Q := ACall.intro rfl fun h1 h2 => by
    have h3 := h _ _ rfl rfl h1 h2
    exact (Eq.mpr (by kernel_rfl) h3)

def J60_1 (B : Base) (cl : CallK) (n : Nat) (x1 x3 : AV) (H : Heap) (Q : AV → Heap → Prop) : Prop := awC B cl (ALoop n) c60_1 (ev 28 [(1, x1), (3, x3)]) H (fnQ B a60 (tidyK n Q))
def J60_0 (B : Base) (cl : CallK) (n : Nat) (x3 : AV) (H : Heap) (Q : AV → Heap → Prop) : Prop := awC B cl (ALoop n) c60_0 (ev 28 [(3, x3)]) H (fnQ B a60 (tidyK n Q))
theorem J60_1_in {B : Base} {cl : CallK} {n : Nat} {x1 x3 : AV} {H : Heap} {Q : AV → Heap → Prop} (h :
  (aop B E0 H (fun v16 _ => ob (peek B H v16) fun c17 => pInt .i64 c17 fun n18 => (aop B E0 H (fun v19 _ => ob (peek B H v19) fun c20 => pStr c20 fun s21 => cl 62 [x3, .int .u64 (IntKind.u64.wrap n18)] H fun v22 H23 => pLive v22 fun v24 => (ob (peek B H23 v19) fun c38 => pStr c38 fun s39 => (.str s39 : AV) = .str s21) ∧ (((aop B E0 H23 (fun v37 _ => (v37 : AV) = v19) (.fieldPtr 0 (.const x1)))) ∧ (cl 61 [v24, .str s21] H23 fun v25 H26 => pLive v25 fun v27 => (aop B E0 H26 (fun v28 _ => ob (peek B H26 v28) fun c29 => pBool c29 fun b30 => bs b30 (J60_0 B cl n v27 H26 Q) ((aop B E0 H26 (fun v31 _ => ob (peek B H26 v31) fun c32 => pStr c32 fun s33 => cl 61 [v27, .str s33] H26 fun v34 H35 => pLive v34 fun v36 => J60_0 B cl n v36 H35 Q) (.fieldPtr 1 (.const x1))))) (.fieldPtr 2 (.const x1)))))) (.fieldPtr 0 (.const x1)))) (.fieldPtr 3 (.const x1)))) : J60_1 B cl n x1 x3 H Q := (awC_keep (l := l60_1) (a := b60_1)).2 (Eq.mpr (by kernel_rfl) h)
theorem J60_0_in {B : Base} {cl : CallK} {n : Nat} {x3 : AV} {H : Heap} {Q : AV → Heap → Prop} (h :
  tidyK n Q x3 H) : J60_0 B cl n x3 H Q := (awC_keep (l := l60_0) (a := b60_0)).2 (Eq.mpr (by kernel_rfl) h)
theorem f60_in {B : Base} {x0 : AV} {H : Heap} {Q : AV → Heap → Prop} (h : ∀ n cl, n = H.length → cl = Cl B → LowH n H → LowL n [x0] →
  (aop B E0 H (fun v1 H2 => ob (peekN B H2 4 v1) fun c3 => cl 59 [.agg c3] H2 fun v4 H5 => pBool v4 fun b6 => bs b6 (ob (layParts [(.int .u8 0)] [(0, 1, .int .u8 0)]) fun c7 => slK H5 1 1 c7 fun v8 H9 => (aop B E0 H9 (fun v10 _ => ob (peek B H9 v10) fun c11 => pBool c11 fun b12 => bs b12 ((aop B E0 H9 (fun v13 _ => (aop B E0 H9 (fun v14 H15 => J60_1 B cl n v1 v8 H15 Q) (.st 1 (.const v13) (.const (.int .u8 1))))) (.indexPtr 1 (.const v8) (.const (.int .i64 0))))) (J60_1 B cl n v1 v8 H9 Q)) (.fieldPtr 2 (.const v1)))) (tidyK n Q (.nils) H5)) (.box 4 (.const x0)))) : Cl B 60 [x0] H Q := ACall.intro rfl fun h1 h2 => by
    have h3 := h _ _ rfl rfl h1 h2
    exact (Eq.mpr (by kernel_rfl) h3)

theorem f61_in {B : Base} {x0 : AV} {x1 : List UInt8} {H : Heap} {Q : AV → Heap → Prop} (h : ∀ n cl, n = H.length → cl = Cl B → LowH n H → LowL n [x0, .str x1] →
  cl 62 [x0, .int .u64 (IntKind.u64.wrap (((List.length x1 : Nat) : Int)))] H fun v1 H2 => pLive v1 fun v3 => (aop B E0 H2 (fun v4 H5 => tidyK n Q v4 H5) (.appendS (.const v3) (.const (.str x1))))) : Cl B 61 [x0, .str x1] H Q := ACall.intro rfl fun h1 h2 => by
    have h3 := h _ _ rfl rfl h1 h2
    exact (Eq.mpr (by kernel_rfl) h3)

def k62_0 (B : Base) (cl : CallK) (n : Nat) (Q : AV → Heap → Prop) : KQ := (AExit.thenK (fun e h => awC B cl (ALoop n) c62_1 e h (fnQ B a62 (tidyK n Q))) (fnQ B a62 (tidyK n Q)))
def k62_1 (B : Base) (cl : CallK) (n : Nat) (Q : AV → Heap → Prop) : KQ := (AExit.blockK 0 (k62_0 B cl n Q))
def L62_0 (B : Base) (cl : CallK) (n : Nat) (x0 x1 : AV) (H : Heap) (Q : AV → Heap → Prop) : Prop := awC B cl (ALoop n) c62_0 (ev 26 [(0, x0), (1, x1)]) H (k62_1 B cl n Q)
def J62_1 (B : Base) (cl : CallK) (n : Nat) (x0 x1 : AV) (H : Heap) (Q : AV → Heap → Prop) : Prop := awC B cl (ALoop n) c62_1 (ev 26 [(0, x0), (1, x1)]) H (fnQ B a62 (tidyK n Q))
theorem L62_0_in {B : Base} {cl : CallK} {n : Nat} {x0 x1 : AV} {H : Heap} {Q : AV → Heap → Prop} (hcl : CLe cl cl) (h :
  pInt .u64 x1 fun n4 => bs (decide ((n4 : Int) ≥ 128)) (pInt .u64 x1 fun n5 => ob (layParts [(.int .u8 0)] [(0, 1, .int .u8 (bitsOp .or IntKind.u8 (IntKind.u8.wrap n5) 128))]) fun c6 => slK H 1 1 c6 fun v7 H8 => (aop B E0 H8 (fun v9 H10 => (aop B E0 H10 (fun v11 _ => L62_0 B cl n v9 v11 H10 Q) (.shf .shr .u64 (.const x1) (.const (.int .u64 7))))) (.append 1 1 (.const x0) (.const v7)))) (J62_1 B cl n x0 x1 H Q)) : L62_0 B cl n x0 x1 H Q := ALoop.round2 (l := l62_0) (a := b62_0) hcl rfl (Eq.mpr (by kernel_rfl) h)
theorem J62_1_in {B : Base} {cl : CallK} {n : Nat} {x0 x1 : AV} {H : Heap} {Q : AV → Heap → Prop} (h :
  pInt .u64 x1 fun n12 => ob (layParts [(.int .u8 0)] [(0, 1, .int .u8 (IntKind.u8.wrap n12))]) fun c13 => slK H 1 1 c13 fun v14 H15 => (aop B E0 H15 (fun v16 H17 => tidyK n Q v16 H17) (.append 1 1 (.const x0) (.const v14)))) : J62_1 B cl n x0 x1 H Q := (awC_keep (l := l62_1) (a := b62_1)).2 (Eq.mpr (by kernel_rfl) h)
theorem f62_in {B : Base} {x0 : AV} {x1 : Int} {H : Heap} {Q : AV → Heap → Prop} (h : ∀ n cl, n = H.length → cl = Cl B → LowH n H → LowL n [x0, .int .u64 x1] →
  ob (lenOf x0) fun k1 => ob (lenOf x0) fun k2 => (aop B E0 H (fun v3 _ => L62_0 B cl n v3 (.int .u64 x1) H Q) (.sliceL 1 (.const x0) none (some (.const (.int .i64 (k1 : Int)))) (some (.const (.int .i64 (k2 : Int))))))) : Cl B 62 [x0, .int .u64 x1] H Q := ACall.intro rfl fun h1 h2 => by
    have h3 := h _ _ rfl rfl h1 h2
    exact (Eq.mpr (by kernel_rfl) h3)

def J63_0 (B : Base) (cl : CallK) (n : Nat) (x1 : AV) (H : Heap) (Q : AV → Heap → Prop) : Prop := awC B cl (ALoop n) c63_0 (ev 39 [(1, x1)]) H (fnQ B a63 (tidyK n Q))
theorem J63_0_in {B : Base} {cl : CallK} {n : Nat} {x1 : AV} {H : Heap} {Q : AV → Heap → Prop} (h :
  (aop B E0 H (fun v3 _ => ob (peek B H v3) fun c4 => pStr c4 fun s5 => bs (decide ((((List.length s5 : Nat) : Int) : Int) ≥ 1)) ((aop B E0 H (fun v6 _ => ob (peek B H v6) fun c7 => pStr c7 fun s8 => bs (decide ((((List.length s8 : Nat) : Int) : Int) ≤ 128)) ((aop B E0 H (fun v9 _ => ob (peek B H v9) fun c10 => pStr c10 fun s11 => bs (decide ((((List.length s11 : Nat) : Int) : Int) ≤ 1024)) ((aop B E0 H (fun v12 _ => ob (peek B H v12) fun c13 => pBool c13 fun b14 => bs b14 ((aop B E0 H (fun v15 _ => ob (peek B H v15) fun c16 => pStr c16 fun s17 => pStr ((.str [])) fun s18 => bs (s17 == s18) ((aop B E0 H (fun v19 _ => ob (peek B H v19) fun c20 => pInt .i64 c20 fun n21 => bs (decide ((n21 : Int) ≥ 1)) ((aop B E0 H (fun v22 _ => ob (peek B H v22) fun c23 => pInt .i64 c23 fun n24 => ibinK .leq .i64 n24 1099511627776 fun v25 => tidyK n Q v25 H) (.fieldPtr 3 (.const x1)))) (tidyK n Q (.bool false) H)) (.fieldPtr 3 (.const x1)))) (tidyK n Q (.bool false) H)) (.fieldPtr 1 (.const x1)))) ((aop B E0 H (fun v26 _ => ob (peek B H v26) fun c27 => pInt .i64 c27 fun n28 => bs (decide ((n28 : Int) ≥ 1)) ((aop B E0 H (fun v29 _ => ob (peek B H v29) fun c30 => pInt .i64 c30 fun n31 => ibinK .leq .i64 n31 1099511627776 fun v32 => tidyK n Q v32 H) (.fieldPtr 3 (.const x1)))) (tidyK n Q (.bool false) H)) (.fieldPtr 3 (.const x1))))) (.fieldPtr 2 (.const x1)))) (tidyK n Q (.bool false) H)) (.fieldPtr 1 (.const x1)))) (tidyK n Q (.bool false) H)) (.fieldPtr 0 (.const x1)))) (tidyK n Q (.bool false) H)) (.fieldPtr 0 (.const x1)))) : J63_0 B cl n x1 H Q := (awC_keep (l := l63_0) (a := b63_0)).2 (Eq.mpr (by kernel_rfl) h)
theorem f63_in {B : Base} {x0 : AV} {H : Heap} {Q : AV → Heap → Prop} (h : ∀ n cl, n = H.length → cl = Cl B → LowH n H → LowL n [x0] →
  (aop B E0 H (fun v1 H2 => J63_0 B cl n v1 H2 Q) (.box 4 (.const x0)))) : Cl B 63 [x0] H Q := ACall.intro rfl fun h1 h2 => by
    have h3 := h _ _ rfl rfl h1 h2
    exact (Eq.mpr (by kernel_rfl) h3)

def k64_0 (B : Base) (cl : CallK) (n : Nat) (Q : AV → Heap → Prop) : KQ := (AExit.thenK (fun e h => awC B cl (ALoop n) c64_1 e h (fnQ B a64 (tidyK n Q))) (fnQ B a64 (tidyK n Q)))
def J64_4 (B : Base) (cl : CallK) (n : Nat) (x1 : AV) (H : Heap) (Q : AV → Heap → Prop) : Prop := awC B cl (ALoop n) c64_4 (ev 31 [(1, x1)]) H (fnQ B a64 (tidyK n Q))
def J64_3 (B : Base) (cl : CallK) (n : Nat) (x1 x3 : AV) (H : Heap) (Q : AV → Heap → Prop) : Prop := awC B cl (ALoop n) c64_3 (ev 31 [(1, x1), (3, x3)]) H (fnQ B a64 (tidyK n Q))
def J64_2 (B : Base) (cl : CallK) (n : Nat) (x1 : AV) (H : Heap) (Q : AV → Heap → Prop) : Prop := awC B cl (ALoop n) c64_2 (ev 31 [(1, x1)]) H (fnQ B a64 (tidyK n Q))
def J64_0 (B : Base) (cl : CallK) (n : Nat) (x1 x9 : AV) (H : Heap) (Q : AV → Heap → Prop) : Prop := awC B cl (ALoop n) c64_0 (ev 31 [(1, x1), (9, x9)]) H (k64_0 B cl n Q)
def J64_1 (B : Base) (cl : CallK) (n : Nat) (x1 : AV) (H : Heap) (Q : AV → Heap → Prop) : Prop := awC B cl (ALoop n) c64_1 (ev 31 [(1, x1)]) H (fnQ B a64 (tidyK n Q))
theorem J64_4_in {B : Base} {cl : CallK} {n : Nat} {x1 : AV} {H : Heap} {Q : AV → Heap → Prop} (h :
  ob (peekN B H 4 x1) fun c3 => cl 63 [.agg c3] H fun v4 H5 => tyK .bool v4 fun v6 => J64_3 B cl n x1 v6 H5 Q) : J64_4 B cl n x1 H Q := (awC_keep (l := l64_4) (a := b64_4)).2 (Eq.mpr (by kernel_rfl) h)
theorem J64_3_in {B : Base} {cl : CallK} {n : Nat} {x1 x3 : AV} {H : Heap} {Q : AV → Heap → Prop} (h :
  pBool x3 fun b7 => bs b7 (J64_2 B cl n x1 H Q) (tidyK n Q ((.str [])) H)) : J64_3 B cl n x1 x3 H Q := (awC_keep (l := l64_3) (a := b64_3)).2 (Eq.mpr (by kernel_rfl) h)
theorem J64_2_in {B : Base} {cl : CallK} {n : Nat} {x1 : AV} {H : Heap} {Q : AV → Heap → Prop} (h :
  (aop B E0 H (fun v8 _ => ob (peek B H v8) fun c9 => tyK .bool c9 fun v10 => J64_0 B cl n x1 v10 H Q) (.fieldPtr 2 (.const x1)))) : J64_2 B cl n x1 H Q := (awC_keep (l := l64_2) (a := b64_2)).2 (Eq.mpr (by kernel_rfl) h)
theorem J64_0_in {B : Base} {cl : CallK} {n : Nat} {x1 x9 : AV} {H : Heap} {Q : AV → Heap → Prop} (h :
  pBool x9 fun b11 => (if b11 = true then (aop B E0 H (fun v12 _ => ob (peek B H v12) fun c13 => pInt .i64 c13 fun n14 => (aop B E0 H (fun v15 _ => ob (peek B H v15) fun c16 => pStr c16 fun s17 => ob (layParts [(.int .u8 0)] [(0, 1, .int .u8 1)]) fun c18 => slK H 1 1 c18 fun v19 H20 => (aop B E0 H20 (fun v21 _ => cl 66 [v21, .int .u64 (IntKind.u64.wrap n14)] H20 fun v22 H23 => pStr v22 fun s24 => (ob (peek B H23 v15) fun c29 => pStr c29 fun s30 => (.str s30 : AV) = .str s17) ∧ (((aop B E0 H23 (fun v28 _ => (v28 : AV) = v15) (.fieldPtr 0 (.const x1)))) ∧ (cl 65 [.str s24, .str s17] H23 fun v25 H26 => pStr v25 fun s27 => tidyK n Q (.str s27) H26))) (.toStr (.const v19)))) (.fieldPtr 0 (.const x1)))) (.fieldPtr 3 (.const x1))) else J64_1 B cl n x1 H Q)) : J64_0 B cl n x1 x9 H Q := (awC_keep (l := l64_0) (a := b64_0)).2 (Eq.mpr (by kernel_rfl) h)
theorem J64_1_in {B : Base} {cl : CallK} {n : Nat} {x1 : AV} {H : Heap} {Q : AV → Heap → Prop} (h :
  (aop B E0 H (fun v31 _ => ob (peek B H v31) fun c32 => pInt .i64 c32 fun n33 => (aop B E0 H (fun v34 _ => ob (peek B H v34) fun c35 => pStr c35 fun s36 => (aop B E0 H (fun v37 _ => ob (peek B H v37) fun c38 => pStr c38 fun s39 => ob (layParts [(.int .u8 0)] [(0, 1, .int .u8 0)]) fun c40 => slK H 1 1 c40 fun v41 H42 => (aop B E0 H42 (fun v43 _ => cl 66 [v43, .int .u64 (IntKind.u64.wrap n33)] H42 fun v44 H45 => pStr v44 fun s46 => (ob (peek B H45 v37) fun c60 => pStr c60 fun s61 => (.str s61 : AV) = .str s39) ∧ (((aop B E0 H45 (fun v59 _ => (v59 : AV) = v37) (.fieldPtr 1 (.const x1)))) ∧ ((ob (peek B H45 v34) fun c57 => pStr c57 fun s58 => (.str s58 : AV) = .str s36) ∧ (((aop B E0 H45 (fun v56 _ => (v56 : AV) = v34) (.fieldPtr 0 (.const x1)))) ∧ (cl 65 [.str s46, .str s36] H45 fun v47 H48 => pStr v47 fun s49 => (ob (peek B H48 v37) fun c54 => pStr c54 fun s55 => (.str s55 : AV) = .str s39) ∧ (((aop B E0 H48 (fun v53 _ => (v53 : AV) = v37) (.fieldPtr 1 (.const x1)))) ∧ (cl 65 [.str s49, .str s39] H48 fun v50 H51 => pStr v50 fun s52 => tidyK n Q (.str s52) H51))))))) (.toStr (.const v41)))) (.fieldPtr 1 (.const x1)))) (.fieldPtr 0 (.const x1)))) (.fieldPtr 3 (.const x1)))) : J64_1 B cl n x1 H Q := (awC_keep (l := l64_1) (a := b64_1)).2 (Eq.mpr (by kernel_rfl) h)
theorem f64_in {B : Base} {x0 : AV} {H : Heap} {Q : AV → Heap → Prop} (h : ∀ n cl, n = H.length → cl = Cl B → LowH n H → LowL n [x0] →
  (aop B E0 H (fun v1 H2 => J64_4 B cl n v1 H2 Q) (.box 4 (.const x0)))) : Cl B 64 [x0] H Q := ACall.intro rfl fun h1 h2 => by
    have h3 := h _ _ rfl rfl h1 h2
    exact (Eq.mpr (by kernel_rfl) h3)

theorem f65_in {B : Base} {x0 x1 : List UInt8} {H : Heap} {Q : AV → Heap → Prop} (h : ∀ n cl, n = H.length → cl = Cl B → LowH n H → LowL n [.str x0, .str x1] →
  cl 66 [.str x0, .int .u64 (IntKind.u64.wrap (((List.length x1 : Nat) : Int)))] H fun v1 H2 => pStr v1 fun s3 => sbinK .add s3 x1 fun v4 => tidyK n Q v4 H2) : Cl B 65 [.str x0, .str x1] H Q := ACall.intro rfl fun h1 h2 => by
    have h3 := h _ _ rfl rfl h1 h2
    exact (Eq.mpr (by kernel_rfl) h3)


end Go.Am
