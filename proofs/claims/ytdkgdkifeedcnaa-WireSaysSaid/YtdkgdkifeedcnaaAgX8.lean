/- What the functions of the seat do, from label to label. -/
import Derived.Test.YtdkgdkifeedcnaaAf
namespace Go.Am
open Go
set_option maxRecDepth 100000
def k79_0 (B : Base) (cl : CallK) (n : Nat) (Q : AV → Heap → Prop) : KQ := (AExit.thenK (fun e h => awC B cl (ALoop n) c79_1 e h (fnQ B a79 (tidyK n Q))) (fnQ B a79 (tidyK n Q)))
def J79_2 (B : Base) (cl : CallK) (n : Nat) (x0 : AV) (x1 : Int) (x2 : Bool) (H : Heap) (Q : AV → Heap → Prop) : Prop := awC B cl (ALoop n) c79_2 (ev 34 [(0, x0), (1, .int .i64 x1), (2, .bool x2)]) H (fnQ B a79 (tidyK n Q))
def J79_0 (B : Base) (cl : CallK) (n : Nat) (x0 : AV) (x1 : Int) (H : Heap) (Q : AV → Heap → Prop) : Prop := awC B cl (ALoop n) c79_0 (ev 34 [(0, x0), (1, .int .i64 x1)]) H (k79_0 B cl n Q)
def J79_1 (B : Base) (cl : CallK) (n : Nat) (x0 : AV) (x1 : Int) (H : Heap) (Q : AV → Heap → Prop) : Prop := awC B cl (ALoop n) c79_1 (ev 34 [(0, x0), (1, .int .i64 x1)]) H (fnQ B a79 (tidyK n Q))
def k80_0 (B : Base) (cl : CallK) (n : Nat) (Q : AV → Heap → Prop) : KQ := (AExit.thenK (fun e h => awC B cl (ALoop n) c80_2 e h (fnQ B a80 (tidyK n Q))) (fnQ B a80 (tidyK n Q)))
def J80_4 (B : Base) (cl : CallK) (n : Nat) (x0 : AV) (H : Heap) (Q : AV → Heap → Prop) : Prop := awC B cl (ALoop n) c80_4 (ev 36 [(0, x0)]) H (fnQ B a80 (tidyK n Q))
def J80_3 (B : Base) (cl : CallK) (n : Nat) (x0 x5 x6 x7 : AV) (H : Heap) (Q : AV → Heap → Prop) : Prop := awC B cl (ALoop n) c80_3 (ev 36 [(0, x0), (5, x5), (6, x6), (7, x7)]) H (fnQ B a80 (tidyK n Q))
def J80_0 (B : Base) (cl : CallK) (n : Nat) (x0 x5 x6 x25 : AV) (H : Heap) (Q : AV → Heap → Prop) : Prop := awC B cl (ALoop n) c80_0 (ev 36 [(0, x0), (5, x5), (6, x6), (25, x25)]) H (k80_0 B cl n Q)
def J80_2 (B : Base) (cl : CallK) (n : Nat) (x0 x5 x6 : AV) (H : Heap) (Q : AV → Heap → Prop) : Prop := awC B cl (ALoop n) c80_2 (ev 36 [(0, x0), (5, x5), (6, x6)]) H (fnQ B a80 (tidyK n Q))
def J80_1 (B : Base) (cl : CallK) (n : Nat) (x0 x6 : AV) (x8 : Int) (H : Heap) (Q : AV → Heap → Prop) : Prop := awC B cl (ALoop n) c80_1 (ev 36 [(0, x0), (6, x6), (8, .int .i64 x8)]) H (fnQ B a80 (tidyK n Q))
def k81_0 (B : Base) (cl : CallK) (n : Nat) (Q : AV → Heap → Prop) : KQ := (AExit.thenK (fun e h => awC B cl (ALoop n) c81_5 e h (fnQ B a81 (tidyK n Q))) (fnQ B a81 (tidyK n Q)))
def k81_1 (B : Base) (cl : CallK) (n : Nat) (Q : AV → Heap → Prop) : KQ := (AExit.blockK 0 (k81_0 B cl n Q))
def k81_2 (B : Base) (cl : CallK) (n : Nat) (Q : AV → Heap → Prop) : KQ := (AExit.thenK (fun e h => awC B cl (ALoop n) c81_4 e h (k81_1 B cl n Q)) (k81_1 B cl n Q))
def k81_3 (B : Base) (cl : CallK) (n : Nat) (Q : AV → Heap → Prop) : KQ := (AExit.thenK (fun e h => awC B cl (ALoop n) (.ops [⟨(some 46), none, (.op (.ibin .add .i64 (.tmp 14) (.const (.int .i64 1))))⟩, ⟨(some 14), none, (.op (.mov (.tmp 46)))⟩]) e h (k81_2 B cl n Q)) (k81_2 B cl n Q))
def k81_4 (B : Base) (cl : CallK) (n : Nat) (Q : AV → Heap → Prop) : KQ := (AExit.blockK 1 (k81_3 B cl n Q))
def k81_5 (B : Base) (cl : CallK) (n : Nat) (Q : AV → Heap → Prop) : KQ := (AExit.thenK (fun e h => awC B cl (ALoop n) (.seq (.ops [⟨(some 33), none, (.op (.mov (.tmp 5)))⟩, ⟨(some 34), none, (.op (.mov (.tmp 7)))⟩, ⟨(some 35), none, (.op (.ibin .and .u8 (.tmp 34) (.const (.int .u8 127))))⟩, ⟨(some 36), none, (.op (.convI .u8 .u64 (.tmp 35)))⟩, ⟨(some 37), none, (.op (.mov (.tmp 6)))⟩, ⟨(some 38), none, (.op (.ibin .mul .i64 (.const (.int .i64 7)) (.tmp 37)))⟩, ⟨(some 39), none, (.op (.shf .shl .u64 (.tmp 36) (.tmp 38)))⟩, ⟨(some 40), none, (.op (.ibin .or .u64 (.tmp 33) (.tmp 39)))⟩, ⟨(some 5), none, (.op (.mov (.tmp 40)))⟩]) c81_1) e h (k81_4 B cl n Q)) (k81_4 B cl n Q))
def J81_7 (B : Base) (cl : CallK) (n : Nat) (x0 : AV) (H : Heap) (Q : AV → Heap → Prop) : Prop := awC B cl (ALoop n) c81_7 (ev 47 [(0, x0)]) H (fnQ B a81 (tidyK n Q))
def J81_6 (B : Base) (cl : CallK) (n : Nat) (x0 : AV) (x5 : Int) (H : Heap) (Q : AV → Heap → Prop) : Prop := awC B cl (ALoop n) c81_6 (ev 47 [(0, x0), (5, .int .u64 x5)]) H (fnQ B a81 (tidyK n Q))
def L81_4 (B : Base) (cl : CallK) (n : Nat) (x5 : Int) (x12 : AV) (x13 x14 : Int) (H : Heap) (Q : AV → Heap → Prop) : Prop := awC B cl (ALoop n) c81_4 (ev 47 [(5, .int .u64 x5), (12, x12), (13, .int .i64 x13), (14, .int .i64 x14)]) H (k81_1 B cl n Q)
def J81_3 (B : Base) (cl : CallK) (n : Nat) (x5 : Int) (x12 : AV) (x13 x14 : Int) (x15 : AV) (H : Heap) (Q : AV → Heap → Prop) : Prop := awC B cl (ALoop n) c81_3 (ev 47 [(5, .int .u64 x5), (12, x12), (13, .int .i64 x13), (14, .int .i64 x14), (15, x15)]) H (k81_2 B cl n Q)
def J81_2 (B : Base) (cl : CallK) (n : Nat) (x5 x6 x7 : Int) (x12 : AV) (x13 x14 : Int) (H : Heap) (Q : AV → Heap → Prop) : Prop := awC B cl (ALoop n) c81_2 (ev 47 [(5, .int .u64 x5), (6, .int .i64 x6), (7, .int .u8 x7), (12, x12), (13, .int .i64 x13), (14, .int .i64 x14)]) H (k81_4 B cl n Q)
def J81_5 (B : Base) (cl : CallK) (n : Nat)  (H : Heap) (Q : AV → Heap → Prop) : Prop := awC B cl (ALoop n) c81_5 (ev 47 []) H (fnQ B a81 (tidyK n Q))
def J81_0 (B : Base) (cl : CallK) (n : Nat) (x5 x6 x7 : Int) (x12 : AV) (x13 x14 : Int) (x32 : AV) (H : Heap) (Q : AV → Heap → Prop) : Prop := awC B cl (ALoop n) c81_0 (ev 47 [(5, .int .u64 x5), (6, .int .i64 x6), (7, .int .u8 x7), (12, x12), (13, .int .i64 x13), (14, .int .i64 x14), (32, x32)]) H (k81_5 B cl n Q)
def J81_1 (B : Base) (cl : CallK) (n : Nat) (x5 x6 x7 : Int) (x12 : AV) (x13 x14 : Int) (H : Heap) (Q : AV → Heap → Prop) : Prop := awC B cl (ALoop n) c81_1 (ev 47 [(5, .int .u64 x5), (6, .int .i64 x6), (7, .int .u8 x7), (12, x12), (13, .int .i64 x13), (14, .int .i64 x14)]) H (k81_4 B cl n Q)
def k86_0 (B : Base) (cl : CallK) (n : Nat) (Q : AV → Heap → Prop) : KQ := (AExit.thenK (fun e h => awC B cl (ALoop n) c86_1 e h (fnQ B a86 (tidyK n Q))) (fnQ B a86 (tidyK n Q)))
def k86_1 (B : Base) (cl : CallK) (n : Nat) (Q : AV → Heap → Prop) : KQ := (AExit.blockK 0 (k86_0 B cl n Q))
def L86_0 (B : Base) (cl : CallK) (n : Nat) (x0 x2 x7 : AV) (x10 x11 : Int) (H : Heap) (Q : AV → Heap → Prop) : Prop := awC B cl (ALoop n) c86_0 (ev 24 [(0, x0), (2, x2), (7, x7), (10, .int .i64 x10), (11, .int .i64 x11)]) H (k86_1 B cl n Q)
def J86_1 (B : Base) (cl : CallK) (n : Nat) (x7 : AV) (H : Heap) (Q : AV → Heap → Prop) : Prop := awC B cl (ALoop n) c86_1 (ev 24 [(7, x7)]) H (fnQ B a86 (tidyK n Q))
def J87_0 (B : Base) (cl : CallK) (n : Nat) (x2 x3 : AV) (H : Heap) (Q : AV → Heap → Prop) : Prop := awC B cl (ALoop n) c87_0 (ev 16 [(2, x2), (3, x3)]) H (fnQ B a87 (tidyK n Q))
def k88_0 (B : Base) (cl : CallK) (n : Nat) (Q : AV → Heap → Prop) : KQ := (AExit.thenK (fun e h => awC B cl (ALoop n) c88_1 e h (fnQ B a88 (tidyK n Q))) (fnQ B a88 (tidyK n Q)))
def k88_1 (B : Base) (cl : CallK) (n : Nat) (Q : AV → Heap → Prop) : KQ := (AExit.blockK 0 (k88_0 B cl n Q))
def L88_0 (B : Base) (cl : CallK) (n : Nat) (x0 x2 x7 : AV) (x10 x11 : Int) (H : Heap) (Q : AV → Heap → Prop) : Prop := awC B cl (ALoop n) c88_0 (ev 24 [(0, x0), (2, x2), (7, x7), (10, .int .i64 x10), (11, .int .i64 x11)]) H (k88_1 B cl n Q)
def J88_1 (B : Base) (cl : CallK) (n : Nat) (x7 : AV) (H : Heap) (Q : AV → Heap → Prop) : Prop := awC B cl (ALoop n) c88_1 (ev 24 [(7, x7)]) H (fnQ B a88 (tidyK n Q))
def k90_0 (B : Base) (cl : CallK) (n : Nat) (Q : AV → Heap → Prop) : KQ := (AExit.thenK (fun e h => awC B cl (ALoop n) c90_1 e h (fnQ B a90 (tidyK n Q))) (fnQ B a90 (tidyK n Q)))
def k90_1 (B : Base) (cl : CallK) (n : Nat) (Q : AV → Heap → Prop) : KQ := (AExit.blockK 0 (k90_0 B cl n Q))
def L90_0 (B : Base) (cl : CallK) (n : Nat) (x0 x2 x7 : AV) (x10 x11 : Int) (H : Heap) (Q : AV → Heap → Prop) : Prop := awC B cl (ALoop n) c90_0 (ev 24 [(0, x0), (2, x2), (7, x7), (10, .int .i64 x10), (11, .int .i64 x11)]) H (k90_1 B cl n Q)
def J90_1 (B : Base) (cl : CallK) (n : Nat) (x7 : AV) (H : Heap) (Q : AV → Heap → Prop) : Prop := awC B cl (ALoop n) c90_1 (ev 24 [(7, x7)]) H (fnQ B a90 (tidyK n Q))
theorem f94_in {B : Base} {x0 : List UInt8} {x1 : AV} {H : Heap} {Q : AV → Heap → Prop} (h : ∀ n cl, n = H.length → cl = Cl B → LowH n H → LowL n [.str x0, x1] →
  (aop B E0 H (fun v1 H2 => (aop B E0 H2 (fun v3 _ => ob (peek B H2 v3) fun c4 => pInt .i64 c4 fun n5 => cl 33 [.int .i64 n5] H2 fun v6 H7 => pBool v6 fun b8 => bs b8 ((aop B E0 H7 (fun v9 _ => ob (peek B H7 v9) fun c10 => pInt .i64 c10 fun n11 => (aop B E0 H7 (fun v12 _ => ob (peek B H7 v12) fun c13 => pLive c13 fun v14 => (aop B E0 H7 (fun v15 _ => (aop B E0 H7 (fun v16 _ => ob (peek B H7 v16) fun c17 => pLive c17 fun v18 => cl 34 [.str x0, .int .i64 n11] H7 fun v19 H20 => pStr v19 fun s21 => (ob (peek B H20 v16) fun c38 => pLive c38 fun v39 => (v39 : AV) = v18) ∧ (((aop B E0 H20 (fun v37 _ => (v37 : AV) = v16) (.fieldPtr 2 (.const v1)))) ∧ (((aop B E0 H20 (fun v36 _ => (v36 : AV) = v15) (.toStr (.const v14)))) ∧ ((ob (peek B H20 v12) fun c34 => pLive c34 fun v35 => (v35 : AV) = v14) ∧ (((aop B E0 H20 (fun v33 _ => (v33 : AV) = v12) (.fieldPtr 1 (.const v1)))) ∧ (cl 32 [.str s21, v15] H20 fun v22 H23 => pStr v22 fun s24 => (ob (peek B H23 v16) fun c31 => pLive c31 fun v32 => (v32 : AV) = v18) ∧ (((aop B E0 H23 (fun v30 _ => (v30 : AV) = v16) (.fieldPtr 2 (.const v1)))) ∧ (cl 95 [.str s24, v18] H23 fun v25 H26 => pLive v25 fun v27 => (aop B E0 H26 (fun v28 _ => (aop B E0 H26 (fun v29 _ => tidyK n Q (.tuple [v28, v29]) H26) (.extract (some .bool) 1 (.const v27)))) (.extract (some .str) 0 (.const v27))))))))))) (.fieldPtr 2 (.const v1)))) (.toStr (.const v14)))) (.fieldPtr 1 (.const v1)))) (.fieldPtr 0 (.const v1)))) (tidyK n Q (.tuple [.str x0, .bool false]) H7)) (.fieldPtr 0 (.const v1)))) (.box 3 (.const x1)))) : Cl B 94 [.str x0, x1] H Q := ACall.intro rfl fun h1 h2 => by
    have h3 := h _ _ rfl rfl h1 h2
    exact (Eq.mpr (by kernel_rfl) h3)

def k95_0 (B : Base) (cl : CallK) (n : Nat) (Q : AV → Heap → Prop) : KQ := (AExit.thenK (fun e h => awC B cl (ALoop n) c95_1 e h (fnQ B a95 (tidyK n Q))) (fnQ B a95 (tidyK n Q)))
def k95_1 (B : Base) (cl : CallK) (n : Nat) (Q : AV → Heap → Prop) : KQ := (AExit.blockK 0 (k95_0 B cl n Q))
def L95_0 (B : Base) (cl : CallK) (n : Nat) (x0 x1 : AV) (x6 : Int) (H : Heap) (Q : AV → Heap → Prop) : Prop := awC B cl (ALoop n) c95_0 (ev 28 [(0, x0), (1, x1), (6, .int .i64 x6)]) H (k95_1 B cl n Q)
def J95_1 (B : Base) (cl : CallK) (n : Nat) (x0 x1 : AV) (H : Heap) (Q : AV → Heap → Prop) : Prop := awC B cl (ALoop n) c95_1 (ev 28 [(0, x0), (1, x1)]) H (fnQ B a95 (tidyK n Q))
theorem L95_0_in {B : Base} {cl : CallK} {n : Nat} {x0 x1 : AV} {x6 : Int} {H : Heap} {Q : AV → Heap → Prop} (hcl : CLe cl cl) (h :
  ob (lenOf x1) fun k5 => bs (decide ((x6 : Int) < (k5 : Int))) ((aop B E0 H (fun v6 _ => (aop B E0 H (fun v7 _ => (aop B E0 H (fun v8 _ => pStr x0 fun s9 => pStr v8 fun s10 => sbinK .add s9 s10 fun v11 => L95_0 B cl n v11 x1 (IntKind.i64.wrap (x6 + 1)) H Q) (.toStr (.const v7)))) (.sliceA 32 1 (.const v6) none none))) (.indexPtr 32 (.const x1) (.const (.int .i64 x6))))) (J95_1 B cl n x0 x1 H Q)) : L95_0 B cl n x0 x1 x6 H Q := ALoop.round2 (l := l95_0) (a := b95_0) hcl rfl (Eq.mpr (by kernel_rfl) h)
theorem J95_1_in {B : Base} {cl : CallK} {n : Nat} {x0 x1 : AV} {H : Heap} {Q : AV → Heap → Prop} (h :
  ob (lenOf x1) fun k12 => ibinK .leq .i64 (k12 : Int) 64 fun v13 => tidyK n Q (.tuple [x0, v13]) H) : J95_1 B cl n x0 x1 H Q := (awC_keep (l := l95_1) (a := b95_1)).2 (Eq.mpr (by kernel_rfl) h)
theorem f95_in {B : Base} {x0 : List UInt8} {x1 : AV} {H : Heap} {Q : AV → Heap → Prop} (h : ∀ n cl, n = H.length → cl = Cl B → LowH n H → LowL n [.str x0, x1] →
  ob (lenOf x1) fun k1 => cl 34 [.str x0, .int .i64 (k1 : Int)] H fun v2 H3 => pStr v2 fun s4 => L95_0 B cl n (.str s4) x1 0 H3 Q) : Cl B 95 [.str x0, x1] H Q := ACall.intro rfl fun h1 h2 => by
    have h3 := h _ _ rfl rfl h1 h2
    exact (Eq.mpr (by kernel_rfl) h3)

theorem f96_in {B : Base} {x0 x1 : AV} {H : Heap} {Q : AV → Heap → Prop} (h : ∀ n cl, n = H.length → cl = Cl B → LowH n H → LowL n [x0, x1] →
  (aop B E0 H (fun v1 H2 => (aop B E0 H2 (fun v3 H4 => (aop B E0 H4 (fun v5 _ => ob (peek B H4 v5) fun c6 => pInt .i64 c6 fun n7 => (aop B E0 H4 (fun v8 _ => ob (peek B H4 v8) fun c9 => pInt .i64 c9 fun n10 => bs ((n7 : Int) == n10) ((aop B E0 H4 (fun v11 _ => ob (peek B H4 v11) fun c12 => pLive c12 fun v13 => (aop B E0 H4 (fun v14 _ => (aop B E0 H4 (fun v15 _ => ob (peek B H4 v15) fun c16 => pLive c16 fun v17 => (aop B E0 H4 (fun v18 _ => pStr v14 fun s19 => pStr v18 fun s20 => bs (s19 == s20) ((aop B E0 H4 (fun v21 _ => ob (peek B H4 v21) fun c22 => pLive c22 fun v23 => (aop B E0 H4 (fun v24 _ => ob (peek B H4 v24) fun c25 => pLive c25 fun v26 => cl 97 [v23, v26] H4 fun v27 H28 => tyK .bool v27 fun v29 => tidyK n Q v29 H28) (.fieldPtr 2 (.const v3)))) (.fieldPtr 2 (.const v1)))) (tidyK n Q (.bool false) H4)) (.toStr (.const v17)))) (.fieldPtr 1 (.const v3)))) (.toStr (.const v13)))) (.fieldPtr 1 (.const v1)))) (tidyK n Q (.bool false) H4)) (.fieldPtr 0 (.const v3)))) (.fieldPtr 0 (.const v1)))) (.box 3 (.const x1)))) (.box 3 (.const x0)))) : Cl B 96 [x0, x1] H Q := ACall.intro rfl fun h1 h2 => by
    have h3 := h _ _ rfl rfl h1 h2
    exact (Eq.mpr (by kernel_rfl) h3)

def k97_0 (B : Base) (cl : CallK) (n : Nat) (Q : AV → Heap → Prop) : KQ := (AExit.thenK (fun e h => awC B cl (ALoop n) c97_1 e h (fnQ B a97 (tidyK n Q))) (fnQ B a97 (tidyK n Q)))
def k97_1 (B : Base) (cl : CallK) (n : Nat) (Q : AV → Heap → Prop) : KQ := (AExit.blockK 0 (k97_0 B cl n Q))
def L97_0 (B : Base) (cl : CallK) (n : Nat) (x0 x1 : AV) (x5 : Int) (H : Heap) (Q : AV → Heap → Prop) : Prop := awC B cl (ALoop n) c97_0 (ev 26 [(0, x0), (1, x1), (5, .int .i64 x5)]) H (k97_1 B cl n Q)
def J97_1 (B : Base) (cl : CallK) (n : Nat)  (H : Heap) (Q : AV → Heap → Prop) : Prop := awC B cl (ALoop n) c97_1 (ev 26 []) H (fnQ B a97 (tidyK n Q))
theorem L97_0_in {B : Base} {cl : CallK} {n : Nat} {x0 x1 : AV} {x5 : Int} {H : Heap} {Q : AV → Heap → Prop} (hcl : CLe cl cl) (h :
  ob (lenOf x0) fun k3 => bs (decide ((x5 : Int) < (k3 : Int))) ((aop B E0 H (fun v4 _ => ob (peekN B H 32 v4) fun c5 => (aop B E0 H (fun v6 _ => ob (peekN B H 32 v6) fun c7 => (aop B E0 H (fun v8 _ => pBool v8 fun b9 => (if b9 = true then tidyK n Q (.bool false) H else L97_0 B cl n x0 x1 (IntKind.i64.wrap (x5 + 1)) H Q)) (.aeq true 32 [(0, (.int .u8)), (1, (.int .u8)), (2, (.int .u8)), (3, (.int .u8)), (4, (.int .u8)), (5, (.int .u8)), (6, (.int .u8)), (7, (.int .u8)), (8, (.int .u8)), (9, (.int .u8)), (10, (.int .u8)), (11, (.int .u8)), (12, (.int .u8)), (13, (.int .u8)), (14, (.int .u8)), (15, (.int .u8)), (16, (.int .u8)), (17, (.int .u8)), (18, (.int .u8)), (19, (.int .u8)), (20, (.int .u8)), (21, (.int .u8)), (22, (.int .u8)), (23, (.int .u8)), (24, (.int .u8)), (25, (.int .u8)), (26, (.int .u8)), (27, (.int .u8)), (28, (.int .u8)), (29, (.int .u8)), (30, (.int .u8)), (31, (.int .u8))] (.const (.agg c5)) (.const (.agg c7))))) (.indexPtr 32 (.const x1) (.const (.int .i64 x5))))) (.indexPtr 32 (.const x0) (.const (.int .i64 x5))))) (J97_1 B cl n H Q)) : L97_0 B cl n x0 x1 x5 H Q := ALoop.round2 (l := l97_0) (a := b97_0) hcl rfl (Eq.mpr (by kernel_rfl) h)
theorem J97_1_in {B : Base} {cl : CallK} {n : Nat}  {H : Heap} {Q : AV → Heap → Prop} (h :
  tidyK n Q (.bool true) H) : J97_1 B cl n  H Q := (awC_keep (l := l97_1) (a := b97_1)).2 (Eq.mpr (by kernel_rfl) h)
theorem f97_in {B : Base} {x0 x1 : AV} {H : Heap} {Q : AV → Heap → Prop} (h : ∀ n cl, n = H.length → cl = Cl B → LowH n H → LowL n [x0, x1] →
  ob (lenOf x0) fun k1 => ob (lenOf x1) fun k2 => bs (((k1 : Int) : Int) != (k2 : Int)) (tidyK n Q (.bool false) H) (L97_0 B cl n x0 x1 0 H Q)) : Cl B 97 [x0, x1] H Q := ACall.intro rfl fun h1 h2 => by
    have h3 := h _ _ rfl rfl h1 h2
    exact (Eq.mpr (by kernel_rfl) h3)

def J98_3 (B : Base) (cl : CallK) (n : Nat) (x0 : AV) (H : Heap) (Q : AV → Heap → Prop) : Prop := awC B cl (ALoop n) c98_3 (ev 40 [(0, x0)]) H (fnQ B a98 (tidyK n Q))
def J98_2 (B : Base) (cl : CallK) (n : Nat) (x0 x3 x4 x5 : AV) (H : Heap) (Q : AV → Heap → Prop) : Prop := awC B cl (ALoop n) c98_2 (ev 40 [(0, x0), (3, x3), (4, x4), (5, x5)]) H (fnQ B a98 (tidyK n Q))
def J98_1 (B : Base) (cl : CallK) (n : Nat) (x0 x3 x5 : AV) (H : Heap) (Q : AV → Heap → Prop) : Prop := awC B cl (ALoop n) c98_1 (ev 40 [(0, x0), (3, x3), (5, x5)]) H (fnQ B a98 (tidyK n Q))
def J98_0 (B : Base) (cl : CallK) (n : Nat) (x3 : AV) (H : Heap) (Q : AV → Heap → Prop) : Prop := awC B cl (ALoop n) c98_0 (ev 40 [(3, x3)]) H (fnQ B a98 (tidyK n Q))
end Go.Am
