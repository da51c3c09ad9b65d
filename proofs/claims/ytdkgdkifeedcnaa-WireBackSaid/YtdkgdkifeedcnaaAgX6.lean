/- What the functions of the seat do, from label to label. -/
import Derived.Test.YtdkgdkifeedcnaaAf
namespace Go.Am
open Go
set_option maxRecDepth 100000
def k81_0 (B : Base) (cl : CallK) (n : Nat) (Q : AV → Heap → Prop) : KQ := (AExit.thenK (fun e h => awC B cl (ALoop n) c81_5 e h (fnQ B a81 (tidyK n Q))) (fnQ B a81 (tidyK n Q)))
def k81_1 (B : Base) (cl : CallK) (n : Nat) (Q : AV → Heap → Prop) : KQ := (AExit.blockK 0 (k81_0 B cl n Q))
def k81_2 (B : Base) (cl : CallK) (n : Nat) (Q : AV → Heap → Prop) : KQ := (AExit.thenK (fun e h => awC B cl (ALoop n) c81_4 e h (k81_1 B cl n Q)) (k81_1 B cl n Q))
def k81_3 (B : Base) (cl : CallK) (n : Nat) (Q : AV → Heap → Prop) : KQ := (AExit.thenK (fun e h => awC B cl (ALoop n) (.ops [⟨(some 46), none, (.op (.ibin .add .i64 (.tmp 14) (.const (.int .i64 1))))⟩, ⟨(some 14), none, (.op (.mov (.tmp 46)))⟩]) e h (k81_2 B cl n Q)) (k81_2 B cl n Q))
def k81_4 (B : Base) (cl : CallK) (n : Nat) (Q : AV → Heap → Prop) : KQ := (AExit.blockK 1 (k81_3 B cl n Q))
def k81_5 (B : Base) (cl : CallK) (n : Nat) (Q : AV → Heap → Prop) : KQ := (AExit.thenK (fun e h => awC B cl (ALoop n) (.seq (.ops [⟨(some 33), none, (.op (.mov (.tmp 5)))⟩, ⟨(some 34), none, (.op (.mov (.tmp 7)))⟩, ⟨(some 35), none, (.op (.ibin .and .u8 (.tmp 34) (.const (.int .u8 127))))⟩, ⟨(some 36), none, (.op (.convI .u8 .u64 (.tmp 35)))⟩, ⟨(some 37), none, (.op (.mov (.tmp 6)))⟩, ⟨(some 38), none, (.op (.ibin .mul .i64 (.const (.int .i64 7)) (.tmp 37)))⟩, ⟨(some 39), none, (.op (.shf .shl .u64 (.tmp 36) (.tmp 38)))⟩, ⟨(some 40), none, (.op (.ibin .or .u64 (.tmp 33) (.tmp 39)))⟩, ⟨(some 5), none, (.op (.mov (.tmp 40)))⟩]) c81_1) e h (k81_4 B cl n Q)) (k81_4 B cl n Q))
def J81_7 (B : Base) (cl : CallK) (n : Nat) (x0 : AV) (H : Heap) (Q : AV → Heap → Prop) : Prop := awC B cl (ALoop n) c81_7 (ev 47 [(0, x0)]) H (fnQ B a81 (tidyK n Q))
def J81_6 (B : Base) (cl : CallK) (n : Nat) (x0 : AV) (x5 : Int) (H : Heap) (Q : AV → Heap → Prop) : Prop := awC B cl (ALoop n) c81_6 (ev 47 [(0, x0), (5, .int .u64 x5)]) H (fnQ B a81 (tidyK n Q))
def L81_4 (B : Base) (cl : CallK) (n : Nat) (x5 : Int) (x12 : AV) (x13 x14 : Int) (H : Heap) (Q : AV → Heap → Prop) : Prop := awC B cl (ALoop n) c81_4 (ev 47 [(5, .int .u64 x5), (12, x12), (13, .int .i64 x13), (14, .int .i64 x14)]) H (k81_1 B cl n Q)
def J81_3 (B : Base) (cl : CallK) (n : Nat) (x5 : Int) (x12 : AV) (x13 x14 : Int) (x15 : AV) (H : Heap) (Q : AV → Heap → Prop) : Prop := awC B cl (ALoop n) c81_3 (ev 47 [(5, .int .u64 x5), (12, x12), (13, .int .i64 x13), (14, .int .i64 x14), (15, x15)]) H (k81_2 B cl n Q)
def J81_2 (B : Base) (cl : CallK) (n : Nat) (x5 x6 x7 : Int) (x12 : AV) (x13 x14 : Int) (H : Heap) (Q : AV → Heap → Prop) : Prop := awC B cl (ALoop n) c81_2 (ev 47 [(5, .int .u64 x5), (6, .int .i64 x6), (7, .int .u8 x7), (12, x12), (13, .int .i64 x13), (14, .int .i64 x14)]) H (k81_4 B cl n Q)
def J81_5 (B : Base) (cl : CallK) (n : Nat)  (H : Heap) (Q : AV → Heap → Prop) : Prop := awC B cl (ALoop n) c81_5 (ev 47 []) H (fnQ B a81 (tidyK n Q))
def J81_0 (B : Base) (cl : CallK) (n : Nat) (x5 x6 x7 : Int) (x12 : AV) (x13 x14 : Int) (x32 : AV) (H : Heap) (Q : AV → Heap → Prop) : Prop := awC B cl (ALoop n) c81_0 (ev 47 [(5, .int .u64 x5), (6, .int .i64 x6), (7, .int .u8 x7), (12, x12), (13, .int .i64 x13), (14, .int .i64 x14), (32, x32)]) H (k81_5 B cl n Q)
def J81_1 (B : Base) (cl : CallK) (n : Nat) (x5 x6 x7 : Int) (x12 : AV) (x13 x14 : Int) (H : Heap) (Q : AV → Heap → Prop) : Prop := awC B cl (ALoop n) c81_1 (ev 47 [(5, .int .u64 x5), (6, .int .i64 x6), (7, .int .u8 x7), (12, x12), (13, .int .i64 x13), (14, .int .i64 x14)]) H (k81_4 B cl n Q)
theorem J81_7_in {B : Base} {cl : CallK} {n : Nat} {x0 : AV} {H : Heap} {Q : AV → Heap → Prop} (h :
  J81_6 B cl n x0 0 H Q) : J81_7 B cl n x0 H Q := (awC_keep (l := l81_7) (a := b81_7)).2 (Eq.mpr (by kernel_rfl) h)
theorem J81_6_in {B : Base} {cl : CallK} {n : Nat} {x0 : AV} {x5 : Int} {H : Heap} {Q : AV → Heap → Prop} (h :
  ob (lenOf x0) fun k1 => (aop B E0 H (fun v2 _ => ob (lenOf v2) fun k3 => L81_4 B cl n x5 v2 (k3 : Int) 0 H Q) (.sliceL 1 (.const x0) none (some (.const (.int .i64 (minInts (k1 : Int) [10])))) none))) : J81_6 B cl n x0 x5 H Q := (awC_keep (l := l81_6) (a := b81_6)).2 (Eq.mpr (by kernel_rfl) h)
theorem L81_4_in {B : Base} {cl : CallK} {n : Nat} {x5 : Int} {x12 : AV} {x13 x14 : Int} {H : Heap} {Q : AV → Heap → Prop} (hcl : CLe cl cl) (h :
  ibinK .lss .i64 x14 x13 fun v4 => J81_3 B cl n x5 x12 x13 x14 v4 H Q) : L81_4 B cl n x5 x12 x13 x14 H Q := ALoop.round2 (l := l81_4) (a := b81_4) hcl rfl (Eq.mpr (by kernel_rfl) h)
theorem J81_3_in {B : Base} {cl : CallK} {n : Nat} {x5 : Int} {x12 : AV} {x13 x14 : Int} {x15 : AV} {H : Heap} {Q : AV → Heap → Prop} (h :
  pBool x15 fun b5 => (if b5 = true then (aop B E0 H (fun v6 _ => ob (peek B H v6) fun c7 => pInt .u8 c7 fun n8 => J81_2 B cl n x5 x14 n8 x12 x13 x14 H Q) (.indexPtr 1 (.const x12) (.const (.int .i64 x14)))) else J81_5 B cl n H Q)) : J81_3 B cl n x5 x12 x13 x14 x15 H Q := (awC_keep (l := l81_3) (a := b81_3)).2 (Eq.mpr (by kernel_rfl) h)
theorem J81_2_in {B : Base} {cl : CallK} {n : Nat} {x5 x6 x7 : Int} {x12 : AV} {x13 x14 : Int} {H : Heap} {Q : AV → Heap → Prop} (h :
  bs ((x6 : Int) == 9) (bs (decide ((x7 : Int) > 1)) (J81_0 B cl n x5 x6 x7 x12 x13 x14 (.bool true) H Q) (bs (decide ((x6 : Int) > 0)) (ibinK .eql .u8 x7 0 fun v9 => J81_0 B cl n x5 x6 x7 x12 x13 x14 v9 H Q) (J81_0 B cl n x5 x6 x7 x12 x13 x14 (.bool false) H Q))) (bs (decide ((x6 : Int) > 0)) (ibinK .eql .u8 x7 0 fun v10 => J81_0 B cl n x5 x6 x7 x12 x13 x14 v10 H Q) (J81_0 B cl n x5 x6 x7 x12 x13 x14 (.bool false) H Q))) : J81_2 B cl n x5 x6 x7 x12 x13 x14 H Q := (awC_keep (l := l81_2) (a := b81_2)).2 (Eq.mpr (by kernel_rfl) h)
theorem J81_5_in {B : Base} {cl : CallK} {n : Nat}  {H : Heap} {Q : AV → Heap → Prop} (h :
  tidyK n Q (.tuple [.int .u64 0, .int .i64 0, .bool false]) H) : J81_5 B cl n  H Q := (awC_keep (l := l81_5) (a := b81_5)).2 (Eq.mpr (by kernel_rfl) h)
theorem J81_0_in {B : Base} {cl : CallK} {n : Nat} {x5 x6 x7 : Int} {x12 : AV} {x13 x14 : Int} {x32 : AV} {H : Heap} {Q : AV → Heap → Prop} (h :
  pBool x32 fun b11 => (if b11 = true then J81_5 B cl n H Q else (aop B E0 H (fun v12 _ => pInt .u64 v12 fun n13 => J81_1 B cl n (bitsOp .or IntKind.u64 x5 n13) x6 x7 x12 x13 x14 H Q) (.shf .shl .u64 (.const (.int .u64 (IntKind.u64.wrap (bitsOp .and IntKind.u8 x7 127)))) (.const (.int .i64 (IntKind.i64.wrap (7 * x6)))))))) : J81_0 B cl n x5 x6 x7 x12 x13 x14 x32 H Q := (awC_keep (l := l81_0) (a := b81_0)).2 (Eq.mpr (by kernel_rfl) h)
theorem J81_1_in {B : Base} {cl : CallK} {n : Nat} {x5 x6 x7 : Int} {x12 : AV} {x13 x14 : Int} {H : Heap} {Q : AV → Heap → Prop} (h :
  bs (decide ((x7 : Int) < 128)) (tidyK n Q (.tuple [.int .u64 x5, .int .i64 (IntKind.i64.wrap (x6 + 1)), .bool true]) H) (L81_4 B cl n x5 x12 x13 (IntKind.i64.wrap (x14 + 1)) H Q)) : J81_1 B cl n x5 x6 x7 x12 x13 x14 H Q := (awC_keep (l := l81_1) (a := b81_1)).2 (Eq.mpr (by kernel_rfl) h)
theorem f81_in {B : Base} {x0 : AV} {H : Heap} {Q : AV → Heap → Prop} (h : ∀ n cl, n = H.length → cl = Cl B → LowH n H → LowL n [x0] →
  J81_7 B cl n x0 H Q) : Cl B 81 [x0] H Q := ACall.intro rfl fun h1 h2 => by
    have h3 := h _ _ rfl rfl h1 h2
    exact (Eq.mpr (by kernel_rfl) h3)

theorem f82_in {B : Base} {x0 x1 : AV} {H : Heap} {Q : AV → Heap → Prop} (h : ∀ n cl, n = H.length → cl = Cl B → LowH n H → LowL n [x0, x1] →
  (aop B E0 H (fun v1 _ => (aop B E0 H (fun v2 _ => pStr v1 fun s3 => pStr v2 fun s4 => sbinK .eql s3 s4 fun v5 => tidyK n Q v5 H) (.toStr (.const x1)))) (.toStr (.const x0)))) : Cl B 82 [x0, x1] H Q := ACall.intro rfl fun h1 h2 => by
    have h3 := h _ _ rfl rfl h1 h2
    exact (Eq.mpr (by kernel_rfl) h3)

def k86_0 (B : Base) (cl : CallK) (n : Nat) (Q : AV → Heap → Prop) : KQ := (AExit.thenK (fun e h => awC B cl (ALoop n) c86_1 e h (fnQ B a86 (tidyK n Q))) (fnQ B a86 (tidyK n Q)))
def k86_1 (B : Base) (cl : CallK) (n : Nat) (Q : AV → Heap → Prop) : KQ := (AExit.blockK 0 (k86_0 B cl n Q))
def L86_0 (B : Base) (cl : CallK) (n : Nat) (x0 x2 x7 : AV) (x10 x11 : Int) (H : Heap) (Q : AV → Heap → Prop) : Prop := awC B cl (ALoop n) c86_0 (ev 24 [(0, x0), (2, x2), (7, x7), (10, .int .i64 x10), (11, .int .i64 x11)]) H (k86_1 B cl n Q)
def J86_1 (B : Base) (cl : CallK) (n : Nat) (x7 : AV) (H : Heap) (Q : AV → Heap → Prop) : Prop := awC B cl (ALoop n) c86_1 (ev 24 [(7, x7)]) H (fnQ B a86 (tidyK n Q))
theorem L86_0_in {B : Base} {cl : CallK} {n : Nat} {x0 x2 x7 : AV} {x10 x11 : Int} {H : Heap} {Q : AV → Heap → Prop} (hcl : CLe cl cl) (h :
  bs (decide ((x11 : Int) < x10)) ((aop B E0 H (fun v4 _ => (aop B E0 H (fun v5 _ => ob (peek B H v5) fun c6 => pBool c6 fun b7 => bs b7 (tidyK n Q (.nils) H) (calleeK B E0 H [] (fun g10 z11 => cl g10 z11 H fun v8 H9 => pLive v8 fun v12 => ob (layParts [(.bool false), (.int .i64 0), .nils, .nils, (.int .i64 0), .nils, .nils] [(0, 7, v12)]) fun c13 => slK H9 7 1 c13 fun v14 H15 => (aop B E0 H15 (fun v16 H17 => L86_0 B cl n x0 x2 v16 x10 (IntKind.i64.wrap (x11 + 1)) H17 Q) (.append 7 120 (.const x7) (.const v14)))) (.val (.const x2)))) (.fieldPtr 1 (.const v4)))) (.nilCheck (.const x0)))) (J86_1 B cl n x7 H Q)) : L86_0 B cl n x0 x2 x7 x10 x11 H Q := ALoop.round2 (l := l86_0) (a := b86_0) hcl rfl (Eq.mpr (by kernel_rfl) h)
theorem J86_1_in {B : Base} {cl : CallK} {n : Nat} {x7 : AV} {H : Heap} {Q : AV → Heap → Prop} (h :
  tidyK n Q x7 H) : J86_1 B cl n x7 H Q := (awC_keep (l := l86_1) (a := b86_1)).2 (Eq.mpr (by kernel_rfl) h)
theorem f86_in {B : Base} {x0 : AV} {x1 : Int} {x2 : AV} {H : Heap} {Q : AV → Heap → Prop} (h : ∀ n cl, n = H.length → cl = Cl B → LowH n H → LowL n [x0, .int .i64 x1, x2] →
  cl 51 [x0, .int .i64 x1] H fun v1 H2 => pInt .i64 v1 fun n3 => L86_0 B cl n x0 x2 .nils n3 0 H2 Q) : Cl B 86 [x0, .int .i64 x1, x2] H Q := ACall.intro rfl fun h1 h2 => by
    have h3 := h _ _ rfl rfl h1 h2
    exact (Eq.mpr (by kernel_rfl) h3)

def J87_0 (B : Base) (cl : CallK) (n : Nat) (x2 x3 : AV) (H : Heap) (Q : AV → Heap → Prop) : Prop := awC B cl (ALoop n) c87_0 (ev 16 [(2, x2), (3, x3)]) H (fnQ B a87 (tidyK n Q))
theorem J87_0_in {B : Base} {cl : CallK} {n : Nat} {x2 x3 : AV} {H : Heap} {Q : AV → Heap → Prop} (h :
  ob (peekN B H 7 x3) fun c24 => (aop B E0 H (fun v25 H26 => ob (peekN B H26 7 x2) fun c27 => tidyK n Q (.agg c27) H26) (.st 7 (.const x2) (.const (.agg c24))))) : J87_0 B cl n x2 x3 H Q := (awC_keep (l := l87_0) (a := b87_0)).2 (Eq.mpr (by kernel_rfl) h)
theorem f87_in {B : Base} {x0 : AV} {H : Heap} {Q : AV → Heap → Prop} (h : ∀ n cl, n = H.length → cl = Cl B → LowH n H → LowL n [x0] →
  (aop B E0 H (fun v1 H2 => cl 51 [x0, .int .i64 1] H2 fun v3 H4 => pInt .i64 v3 fun n5 => ibinK .eql .i64 n5 1 fun v6 => cl 100 [x0] H4 fun v7 H8 => pLive v7 fun v9 => ob (layParts [(.bool false), (.int .i64 0), .nils, .nils, (.int .i64 0), .nils, .nils] [(0, 1, v6), (1, 3, v9)]) fun c10 => (aop B E0 H8 (fun v11 H12 => (aop B E0 H12 (fun v13 H14 => (aop B E0 H14 (fun v15 _ => ob (peek B H14 v15) fun c16 => pBool c16 fun b17 => bs b17 (cl 100 [x0] H14 fun v18 H19 => pLive v18 fun v20 => (aop B E0 H19 (fun v21 _ => (aop B E0 H19 (fun v22 H23 => J87_0 B cl n v1 v11 H23 Q) (.st 3 (.const v21) (.const v20)))) (.fieldPtr 4 (.const v11)))) (J87_0 B cl n v1 v11 H14 Q)) (.fieldPtr 0 (.const v11)))) (.st 7 (.const v11) (.const (.agg c10))))) (.alloc [(.bool false), (.int .i64 0), .nils, .nils, (.int .i64 0), .nils, .nils]))) (.alloc [(.bool false), (.int .i64 0), .nils, .nils, (.int .i64 0), .nils, .nils]))) : Cl B 87 [x0] H Q := ACall.intro rfl fun h1 h2 => by
    have h3 := h _ _ rfl rfl h1 h2
    exact (Eq.mpr (by kernel_rfl) h3)

def k88_0 (B : Base) (cl : CallK) (n : Nat) (Q : AV → Heap → Prop) : KQ := (AExit.thenK (fun e h => awC B cl (ALoop n) c88_1 e h (fnQ B a88 (tidyK n Q))) (fnQ B a88 (tidyK n Q)))
def k88_1 (B : Base) (cl : CallK) (n : Nat) (Q : AV → Heap → Prop) : KQ := (AExit.blockK 0 (k88_0 B cl n Q))
def L88_0 (B : Base) (cl : CallK) (n : Nat) (x0 x2 x7 : AV) (x10 x11 : Int) (H : Heap) (Q : AV → Heap → Prop) : Prop := awC B cl (ALoop n) c88_0 (ev 24 [(0, x0), (2, x2), (7, x7), (10, .int .i64 x10), (11, .int .i64 x11)]) H (k88_1 B cl n Q)
def J88_1 (B : Base) (cl : CallK) (n : Nat) (x7 : AV) (H : Heap) (Q : AV → Heap → Prop) : Prop := awC B cl (ALoop n) c88_1 (ev 24 [(7, x7)]) H (fnQ B a88 (tidyK n Q))
theorem L88_0_in {B : Base} {cl : CallK} {n : Nat} {x0 x2 x7 : AV} {x10 x11 : Int} {H : Heap} {Q : AV → Heap → Prop} (hcl : CLe cl cl) (h :
  bs (decide ((x11 : Int) < x10)) ((aop B E0 H (fun v4 _ => (aop B E0 H (fun v5 _ => ob (peek B H v5) fun c6 => pBool c6 fun b7 => bs b7 (tidyK n Q (.nils) H) (calleeK B E0 H [] (fun g10 z11 => cl g10 z11 H fun v8 H9 => pLive v8 fun v12 => ob (layParts [(.int .i64 0), .nils, .nils] [(0, 3, v12)]) fun c13 => slK H9 3 1 c13 fun v14 H15 => (aop B E0 H15 (fun v16 H17 => L88_0 B cl n x0 x2 v16 x10 (IntKind.i64.wrap (x11 + 1)) H17 Q) (.append 3 56 (.const x7) (.const v14)))) (.val (.const x2)))) (.fieldPtr 1 (.const v4)))) (.nilCheck (.const x0)))) (J88_1 B cl n x7 H Q)) : L88_0 B cl n x0 x2 x7 x10 x11 H Q := ALoop.round2 (l := l88_0) (a := b88_0) hcl rfl (Eq.mpr (by kernel_rfl) h)
theorem J88_1_in {B : Base} {cl : CallK} {n : Nat} {x7 : AV} {H : Heap} {Q : AV → Heap → Prop} (h :
  tidyK n Q x7 H) : J88_1 B cl n x7 H Q := (awC_keep (l := l88_1) (a := b88_1)).2 (Eq.mpr (by kernel_rfl) h)
theorem f88_in {B : Base} {x0 : AV} {x1 : Int} {x2 : AV} {H : Heap} {Q : AV → Heap → Prop} (h : ∀ n cl, n = H.length → cl = Cl B → LowH n H → LowL n [x0, .int .i64 x1, x2] →
  cl 51 [x0, .int .i64 x1] H fun v1 H2 => pInt .i64 v1 fun n3 => L88_0 B cl n x0 x2 .nils n3 0 H2 Q) : Cl B 88 [x0, .int .i64 x1, x2] H Q := ACall.intro rfl fun h1 h2 => by
    have h3 := h _ _ rfl rfl h1 h2
    exact (Eq.mpr (by kernel_rfl) h3)

theorem f89_in {B : Base} {x0 : AV} {H : Heap} {Q : AV → Heap → Prop} (h : ∀ n cl, n = H.length → cl = Cl B → LowH n H → LowL n [x0] →
  (aop B E0 H (fun v1 H2 => (aop B E0 H2 (fun v3 H4 => ob (peek B H4 v1) fun c5 => pLive c5 fun v6 => ob (peek B H4 v1) fun c7 => pLive c7 fun v8 => ob (peek B H4 v1) fun c9 => pLive c9 fun v10 => ob (peek B H4 v1) fun c11 => pLive c11 fun v12 => cl 51 [v6, .int .i64 1099511627776] H4 fun v13 H14 => pInt .i64 v13 fun n15 => ((.func (.func 104) [v12] [] : AV) = .func (.func 104) [v12] []) ∧ ((ob (peek B H14 v1) fun c34 => pLive c34 fun v35 => (v35 : AV) = v12) ∧ ((ob (peek B H14 v1) fun c32 => pLive c32 fun v33 => (v33 : AV) = v10) ∧ (((.func (.func 102) [] [v1] : AV) = .func (.func 102) [] [v1]) ∧ ((ob (peek B H14 v1) fun c30 => pLive c30 fun v31 => (v31 : AV) = v8) ∧ (cl 101 [v8, .int .i64 64, .func (.func 102) [] [v1]] H14 fun v16 H17 => pLive v16 fun v18 => ((.func (.func 104) [v12] [] : AV) = .func (.func 104) [v12] []) ∧ ((ob (peek B H17 v1) fun c28 => pLive c28 fun v29 => (v29 : AV) = v12) ∧ ((ob (peek B H17 v1) fun c26 => pLive c26 fun v27 => (v27 : AV) = v10) ∧ (cl 103 [v10, .int .i64 64, .func (.func 104) [v12] []] H17 fun v19 H20 => pLive v19 fun v21 => ob (layParts [(.int .i64 0), .nils, .nils] [(0, 1, .int .i64 n15), (1, 1, v18), (2, 1, v21)]) fun c22 => (aop B E0 H20 (fun v23 H24 => ob (peekN B H24 3 v3) fun c25 => tidyK n Q (.agg c25) H24) (.st 3 (.const v3) (.const (.agg c22))))))))))))) (.alloc [(.int .i64 0), .nils, .nils]))) (.box 1 (.const x0)))) : Cl B 89 [x0] H Q := ACall.intro rfl fun h1 h2 => by
    have h3 := h _ _ rfl rfl h1 h2
    exact (Eq.mpr (by kernel_rfl) h3)

def k90_0 (B : Base) (cl : CallK) (n : Nat) (Q : AV → Heap → Prop) : KQ := (AExit.thenK (fun e h => awC B cl (ALoop n) c90_1 e h (fnQ B a90 (tidyK n Q))) (fnQ B a90 (tidyK n Q)))
def k90_1 (B : Base) (cl : CallK) (n : Nat) (Q : AV → Heap → Prop) : KQ := (AExit.blockK 0 (k90_0 B cl n Q))
def L90_0 (B : Base) (cl : CallK) (n : Nat) (x0 x2 x7 : AV) (x10 x11 : Int) (H : Heap) (Q : AV → Heap → Prop) : Prop := awC B cl (ALoop n) c90_0 (ev 24 [(0, x0), (2, x2), (7, x7), (10, .int .i64 x10), (11, .int .i64 x11)]) H (k90_1 B cl n Q)
def J90_1 (B : Base) (cl : CallK) (n : Nat) (x7 : AV) (H : Heap) (Q : AV → Heap → Prop) : Prop := awC B cl (ALoop n) c90_1 (ev 24 [(7, x7)]) H (fnQ B a90 (tidyK n Q))
theorem L90_0_in {B : Base} {cl : CallK} {n : Nat} {x0 x2 x7 : AV} {x10 x11 : Int} {H : Heap} {Q : AV → Heap → Prop} (hcl : CLe cl cl) (h :
  bs (decide ((x11 : Int) < x10)) ((aop B E0 H (fun v4 _ => (aop B E0 H (fun v5 _ => ob (peek B H v5) fun c6 => pBool c6 fun b7 => bs b7 (tidyK n Q (.nils) H) (calleeK B E0 H [] (fun g10 z11 => cl g10 z11 H fun v8 H9 => pLive v8 fun v12 => ob (layParts [.nils] [(0, 1, v12)]) fun c13 => slK H9 1 1 c13 fun v14 H15 => (aop B E0 H15 (fun v16 H17 => L90_0 B cl n x0 x2 v16 x10 (IntKind.i64.wrap (x11 + 1)) H17 Q) (.append 1 24 (.const x7) (.const v14)))) (.val (.const x2)))) (.fieldPtr 1 (.const v4)))) (.nilCheck (.const x0)))) (J90_1 B cl n x7 H Q)) : L90_0 B cl n x0 x2 x7 x10 x11 H Q := ALoop.round2 (l := l90_0) (a := b90_0) hcl rfl (Eq.mpr (by kernel_rfl) h)
theorem J90_1_in {B : Base} {cl : CallK} {n : Nat} {x7 : AV} {H : Heap} {Q : AV → Heap → Prop} (h :
  tidyK n Q x7 H) : J90_1 B cl n x7 H Q := (awC_keep (l := l90_1) (a := b90_1)).2 (Eq.mpr (by kernel_rfl) h)
theorem f90_in {B : Base} {x0 : AV} {x1 : Int} {x2 : AV} {H : Heap} {Q : AV → Heap → Prop} (h : ∀ n cl, n = H.length → cl = Cl B → LowH n H → LowL n [x0, .int .i64 x1, x2] →
  cl 51 [x0, .int .i64 x1] H fun v1 H2 => pInt .i64 v1 fun n3 => L90_0 B cl n x0 x2 .nils n3 0 H2 Q) : Cl B 90 [x0, .int .i64 x1, x2] H Q := ACall.intro rfl fun h1 h2 => by
    have h3 := h _ _ rfl rfl h1 h2
    exact (Eq.mpr (by kernel_rfl) h3)

theorem f91_in {B : Base} {x0 : AV} {H : Heap} {Q : AV → Heap → Prop} (h : ∀ n cl, n = H.length → cl = Cl B → LowH n H → LowL n [x0] →
  cl 48 [x0, .int .i64 64, .func (.func 49) [x0] []] H fun v1 H2 => pLive v1 fun v3 => tidyK n Q v3 H2) : Cl B 91 [x0] H Q := ACall.intro rfl fun h1 h2 => by
    have h3 := h _ _ rfl rfl h1 h2
    exact (Eq.mpr (by kernel_rfl) h3)

theorem f96_in {B : Base} {x0 x1 : AV} {H : Heap} {Q : AV → Heap → Prop} (h : ∀ n cl, n = H.length → cl = Cl B → LowH n H → LowL n [x0, x1] →
  (aop B E0 H (fun v1 H2 => (aop B E0 H2 (fun v3 H4 => (aop B E0 H4 (fun v5 _ => ob (peek B H4 v5) fun c6 => pInt .i64 c6 fun n7 => (aop B E0 H4 (fun v8 _ => ob (peek B H4 v8) fun c9 => pInt .i64 c9 fun n10 => bs ((n7 : Int) == n10) ((aop B E0 H4 (fun v11 _ => ob (peek B H4 v11) fun c12 => pLive c12 fun v13 => (aop B E0 H4 (fun v14 _ => (aop B E0 H4 (fun v15 _ => ob (peek B H4 v15) fun c16 => pLive c16 fun v17 => (aop B E0 H4 (fun v18 _ => pStr v14 fun s19 => pStr v18 fun s20 => bs (s19 == s20) ((aop B E0 H4 (fun v21 _ => ob (peek B H4 v21) fun c22 => pLive c22 fun v23 => (aop B E0 H4 (fun v24 _ => ob (peek B H4 v24) fun c25 => pLive c25 fun v26 => cl 97 [v23, v26] H4 fun v27 H28 => tyK .bool v27 fun v29 => tidyK n Q v29 H28) (.fieldPtr 2 (.const v3)))) (.fieldPtr 2 (.const v1)))) (tidyK n Q (.bool false) H4)) (.toStr (.const v17)))) (.fieldPtr 1 (.const v3)))) (.toStr (.const v13)))) (.fieldPtr 1 (.const v1)))) (tidyK n Q (.bool false) H4)) (.fieldPtr 0 (.const v3)))) (.fieldPtr 0 (.const v1)))) (.box 3 (.const x1)))) (.box 3 (.const x0)))) : Cl B 96 [x0, x1] H Q := ACall.intro rfl fun h1 h2 => by
    have h3 := h _ _ rfl rfl h1 h2
    exact (Eq.mpr (by kernel_rfl) h3)

def k97_0 (B : Base) (cl : CallK) (n : Nat) (Q : AV → Heap → Prop) : KQ := (AExit.thenK (fun e h => awC B cl (ALoop n) c97_1 e h (fnQ B a97 (tidyK n Q))) (fnQ B a97 (tidyK n Q)))
def k97_1 (B : Base) (cl : CallK) (n : Nat) (Q : AV → Heap → Prop) : KQ := (AExit.blockK 0 (k97_0 B cl n Q))
def L97_0 (B : Base) (cl : CallK) (n : Nat) (x0 x1 : AV) (x5 : Int) (H : Heap) (Q : AV → Heap → Prop) : Prop := awC B cl (ALoop n) c97_0 (ev 26 [(0, x0), (1, x1), (5, .int .i64 x5)]) H (k97_1 B cl n Q)
def J97_1 (B : Base) (cl : CallK) (n : Nat)  (H : Heap) (Q : AV → Heap → Prop) : Prop := awC B cl (ALoop n) c97_1 (ev 26 []) H (fnQ B a97 (tidyK n Q))
theorem L97_0_in {B : Base} {cl : CallK} {n : Nat} {x0 x1 : AV} {x5 : Int} {H : Heap} {Q : AV → Heap → Prop} (hcl : CLe cl cl) (h :
  ob (lenOf x0) fun k3 => bs (decide ((x5 : Int) < (k3 : Int))) ((aop B E0 H (fun v4 _ => ob (peekN B H 32 v4) fun c5 => (aop B E0 H (fun v6 _ => ob (peekN B H 32 v6) fun c7 => (aop B E0 H (fun v8 _ => pBool v8 fun b9 => (if b9 = true then tidyK n Q (.bool false) H else L97_0 B cl n x0 x1 (IntKind.i64.wrap (x5 + 1)) H Q)) (.aeq true 32 [(0, (.int .u8)), (1, (.int .u8)), (2, (.int .u8)), (3, (.int .u8)), (4, (.int .u8)), (5, (.int .u8)), (6, (.int .u8)), (7, (.int .u8)), (8, (.int .u8)), (9, (.int .u8)), (10, (.int .u8)), (11, (.int .u8)), (12, (.int .u8)), (13, (.int .u8)), (14, (.int .u8)), (15, (.int .u8)), (16, (.int .u8)), (17, (.int .u8)), (18, (.int .u8)), (19, (.int .u8)), (20, (.int .u8)), (21, (.int .u8)), (22, (.int .u8)), (23, (.int .u8)), (24, (.int .u8)), (25, (.int .u8)), (26, (.int .u8)), (27, (.int .u8)), (28, (.int .u8)), (29, (.int .u8)), (30, (.int .u8)), (31, (.int .u8))] (.const (.agg c5)) (.const (.agg c7))))) (.indexPtr 32 (.const x1) (.const (.int .i64 x5))))) (.indexPtr 32 (.const x0) (.const (.int .i64 x5))))) (J97_1 B cl n H Q)) : L97_0 B cl n x0 x1 x5 H Q := ALoop.round2 (l := l97_0) (a := b97_0) hcl rfl (Eq.mpr (by kernel_rfl) h)
theorem J97_1_in {B : Base} {cl : CallK} {n : Nat}  {H : Heap} {Q : AV → Heap → Prop} (h :
  tidyK n Q (.bool true) H) : J97_1 B cl n  H Q := (awC_keep (l := l97_1) (a := b97_1)).2 (Eq.mpr (by kernel_rfl) h)
theorem f97_in {B : Base} {x0 x1 : AV} {H : Heap} {Q : AV → Heap → Prop} (h : ∀ n cl, n = H.length → cl = Cl B → LowH n H → LowL n [x0, x1] →
  ob (lenOf x0) fun k1 => ob (lenOf x1) fun k2 => bs (((k1 : Int) : Int) != (k2 : Int)) (tidyK n Q (.bool false) H) (L97_0 B cl n x0 x1 0 H Q)) : Cl B 97 [x0, x1] H Q := ACall.intro rfl fun h1 h2 => by
    have h3 := h _ _ rfl rfl h1 h2
    exact (Eq.mpr (by kernel_rfl) h3)

def J98_3 (B : Base) (cl : CallK) (n : Nat) (x0 : AV) (H : Heap) (Q : AV → Heap → Prop) : Prop := awC B cl (ALoop n) c98_3 (ev 40 [(0, x0)]) H (fnQ B a98 (tidyK n Q))
def J98_2 (B : Base) (cl : CallK) (n : Nat) (x0 x3 x4 x5 : AV) (H : Heap) (Q : AV → Heap → Prop) : Prop := awC B cl (ALoop n) c98_2 (ev 40 [(0, x0), (3, x3), (4, x4), (5, x5)]) H (fnQ B a98 (tidyK n Q))
def J98_1 (B : Base) (cl : CallK) (n : Nat) (x0 x3 x5 : AV) (H : Heap) (Q : AV → Heap → Prop) : Prop := awC B cl (ALoop n) c98_1 (ev 40 [(0, x0), (3, x3), (5, x5)]) H (fnQ B a98 (tidyK n Q))
def J98_0 (B : Base) (cl : CallK) (n : Nat) (x3 : AV) (H : Heap) (Q : AV → Heap → Prop) : Prop := awC B cl (ALoop n) c98_0 (ev 40 [(3, x3)]) H (fnQ B a98 (tidyK n Q))
theorem J98_3_eq (B : Base) (cl : CallK) (n : Nat) (x0 : AV) (H : Heap) (Q : AV → Heap → Prop) : awC B cl (ALoop n) b98_3 (keepEnv l98_3 (ev 40 [(0, x0)])) H (fnQ B a98 (tidyK n Q)) =
  (wait (aop B E0 H (fun v1 _ => wait (aop B E0 H (fun v2 _ => ob (peek B H v2) fun c3 => pLive c3 fun v4 => wait (aop B E0 H (fun v5 _ => wait (aop B E0 H (fun v6 _ => ob (peek B H v6) fun c7 => pInt .i64 c7 fun n8 => wait (aop B E0 H (fun v9 _ => cl 81 [v9] H fun v10 H11 => pLive v10 fun v12 => wait (aop B E0 H11 (fun v13 _ => wait (aop B E0 H11 (fun v14 _ => wait (aop B E0 H11 (fun v15 _ => J98_2 B cl n x0 v13 v14 v15 H11 Q) (.extract (some .bool) 2 (.const v12)))) (.extract (some (.int .i64)) 1 (.const v12)))) (.extract (some (.int .u64)) 0 (.const v12)))) (.sliceL 1 (.const v4) (some (.const (.int .i64 n8))) none none))) (.fieldPtr 1 (.const v5)))) (.nilCheck (.const x0)))) (.fieldPtr 0 (.const v1)))) (.nilCheck (.const x0)))) := by kernel_rfl
theorem J98_3_in {B : Base} {cl : CallK} {n : Nat} {x0 : AV} {H : Heap} {Q : AV → Heap → Prop} (h :
  (aop B E0 H (fun v1 _ => (aop B E0 H (fun v2 _ => ob (peek B H v2) fun c3 => pLive c3 fun v4 => (aop B E0 H (fun v5 _ => (aop B E0 H (fun v6 _ => ob (peek B H v6) fun c7 => pInt .i64 c7 fun n8 => (aop B E0 H (fun v9 _ => cl 81 [v9] H fun v10 H11 => pLive v10 fun v12 => (aop B E0 H11 (fun v13 _ => (aop B E0 H11 (fun v14 _ => (aop B E0 H11 (fun v15 _ => J98_2 B cl n x0 v13 v14 v15 H11 Q) (.extract (some .bool) 2 (.const v12)))) (.extract (some (.int .i64)) 1 (.const v12)))) (.extract (some (.int .u64)) 0 (.const v12)))) (.sliceL 1 (.const v4) (some (.const (.int .i64 n8))) none none))) (.fieldPtr 1 (.const v5)))) (.nilCheck (.const x0)))) (.fieldPtr 0 (.const v1)))) (.nilCheck (.const x0)))) : J98_3 B cl n x0 H Q := (awC_keep (l := l98_3) (a := b98_3)).2 (Eq.mpr (J98_3_eq B cl n x0 H Q) (by simp only [wait_eq] at h ⊢; exact h))
theorem J98_2_eq (B : Base) (cl : CallK) (n : Nat) (x0 x3 x4 x5 : AV) (H : Heap) (Q : AV → Heap → Prop) : awC B cl (ALoop n) b98_2 (keepEnv l98_2 (ev 40 [(0, x0), (3, x3), (4, x4), (5, x5)])) H (fnQ B a98 (tidyK n Q)) =
  (wait (aop B E0 H (fun v16 _ => wait (aop B E0 H (fun v17 _ => ob (peek B H v17) fun c18 => pInt .i64 c18 fun n19 => pInt .i64 x4 fun n20 => wait (aop B E0 H (fun v21 _ => wait (aop B E0 H (fun v22 _ => wait (aop B E0 H (fun v23 H24 => J98_1 B cl n x0 x3 x5 H24 Q) (.st 1 (.const v22) (.const (.int .i64 (IntKind.i64.wrap (n19 + n20))))))) (.fieldPtr 1 (.const v21)))) (.nilCheck (.const x0)))) (.fieldPtr 1 (.const v16)))) (.nilCheck (.const x0)))) := by kernel_rfl
theorem J98_2_in {B : Base} {cl : CallK} {n : Nat} {x0 x3 x4 x5 : AV} {H : Heap} {Q : AV → Heap → Prop} (h :
  (aop B E0 H (fun v16 _ => (aop B E0 H (fun v17 _ => ob (peek B H v17) fun c18 => pInt .i64 c18 fun n19 => pInt .i64 x4 fun n20 => (aop B E0 H (fun v21 _ => (aop B E0 H (fun v22 _ => (aop B E0 H (fun v23 H24 => J98_1 B cl n x0 x3 x5 H24 Q) (.st 1 (.const v22) (.const (.int .i64 (IntKind.i64.wrap (n19 + n20))))))) (.fieldPtr 1 (.const v21)))) (.nilCheck (.const x0)))) (.fieldPtr 1 (.const v16)))) (.nilCheck (.const x0)))) : J98_2 B cl n x0 x3 x4 x5 H Q := (awC_keep (l := l98_2) (a := b98_2)).2 (Eq.mpr (J98_2_eq B cl n x0 x3 x4 x5 H Q) (by simp only [wait_eq] at h ⊢; exact h))
theorem J98_1_eq (B : Base) (cl : CallK) (n : Nat) (x0 x3 x5 : AV) (H : Heap) (Q : AV → Heap → Prop) : awC B cl (ALoop n) b98_1 (keepEnv l98_1 (ev 40 [(0, x0), (3, x3), (5, x5)])) H (fnQ B a98 (tidyK n Q)) =
  (wait (aop B E0 H (fun v25 _ => wait (aop B E0 H (fun v26 _ => ob (peek B H v26) fun c27 => pBool c27 fun b28 => bs b28 (wait (aop B E0 H (fun v29 _ => wait (aop B E0 H (fun v30 _ => wait (aop B E0 H (fun v31 H32 => J98_0 B cl n x3 H32 Q) (.st 1 (.const v30) (.const (.bool true))))) (.fieldPtr 2 (.const v29)))) (.nilCheck (.const x0)))) (wait (aop B E0 H (fun v33 _ => wait (aop B E0 H (fun v34 _ => wait (aop B E0 H (fun v35 _ => wait (aop B E0 H (fun v36 H37 => J98_0 B cl n x3 H37 Q) (.st 1 (.const v35) (.const v33)))) (.fieldPtr 2 (.const v34)))) (.nilCheck (.const x0)))) (.not (.const x5))))) (.fieldPtr 2 (.const v25)))) (.nilCheck (.const x0)))) := by kernel_rfl
theorem J98_1_in {B : Base} {cl : CallK} {n : Nat} {x0 x3 x5 : AV} {H : Heap} {Q : AV → Heap → Prop} (h :
  (aop B E0 H (fun v25 _ => (aop B E0 H (fun v26 _ => ob (peek B H v26) fun c27 => pBool c27 fun b28 => bs b28 ((aop B E0 H (fun v29 _ => (aop B E0 H (fun v30 _ => (aop B E0 H (fun v31 H32 => J98_0 B cl n x3 H32 Q) (.st 1 (.const v30) (.const (.bool true))))) (.fieldPtr 2 (.const v29)))) (.nilCheck (.const x0)))) ((aop B E0 H (fun v33 _ => (aop B E0 H (fun v34 _ => (aop B E0 H (fun v35 _ => (aop B E0 H (fun v36 H37 => J98_0 B cl n x3 H37 Q) (.st 1 (.const v35) (.const v33)))) (.fieldPtr 2 (.const v34)))) (.nilCheck (.const x0)))) (.not (.const x5))))) (.fieldPtr 2 (.const v25)))) (.nilCheck (.const x0)))) : J98_1 B cl n x0 x3 x5 H Q := (awC_keep (l := l98_1) (a := b98_1)).2 (Eq.mpr (J98_1_eq B cl n x0 x3 x5 H Q) (by simp only [wait_eq] at h ⊢; exact h))
theorem J98_0_eq (B : Base) (cl : CallK) (n : Nat) (x3 : AV) (H : Heap) (Q : AV → Heap → Prop) : awC B cl (ALoop n) b98_0 (keepEnv l98_0 (ev 40 [(3, x3)])) H (fnQ B a98 (tidyK n Q)) =
  (tidyK n Q x3 H) := by kernel_rfl
theorem J98_0_in {B : Base} {cl : CallK} {n : Nat} {x3 : AV} {H : Heap} {Q : AV → Heap → Prop} (h :
  tidyK n Q x3 H) : J98_0 B cl n x3 H Q := (awC_keep (l := l98_0) (a := b98_0)).2 (Eq.mpr (J98_0_eq B cl n x3 H Q) h)
theorem f98_eq (B : Base) (cl : CallK) (n : Nat) (x0 : AV) (H : Heap) (Q : AV → Heap → Prop) : fnK B cl (ALoop n) a98 [x0] H (tidyK n Q) =
  (J98_3 B cl n x0 H Q) := by kernel_rfl
theorem f98_in {B : Base} {x0 : AV} {H : Heap} {Q : AV → Heap → Prop} (h : ∀ n cl, n = H.length → cl = Cl B → LowH n H → LowL n [x0] →
  J98_3 B cl n x0 H Q) : Cl B 98 [x0] H Q := ACall.intro rfl fun h1 h2 => by
    have h3 := h _ _ rfl rfl h1 h2
    exact (Eq.mpr (f98_eq B (Cl B) H.length x0 H Q) h3)

def J99_3 (B : Base) (cl : CallK) (n : Nat) (x0 : AV) (H : Heap) (Q : AV → Heap → Prop) : Prop := awC B cl (ALoop n) c99_3 (ev 40 [(0, x0)]) H (fnQ B a99 (tidyK n Q))
def J99_2 (B : Base) (cl : CallK) (n : Nat) (x0 x3 x4 x5 : AV) (H : Heap) (Q : AV → Heap → Prop) : Prop := awC B cl (ALoop n) c99_2 (ev 40 [(0, x0), (3, x3), (4, x4), (5, x5)]) H (fnQ B a99 (tidyK n Q))
def J99_1 (B : Base) (cl : CallK) (n : Nat) (x0 x3 x5 : AV) (H : Heap) (Q : AV → Heap → Prop) : Prop := awC B cl (ALoop n) c99_1 (ev 40 [(0, x0), (3, x3), (5, x5)]) H (fnQ B a99 (tidyK n Q))
def J99_0 (B : Base) (cl : CallK) (n : Nat) (x3 : AV) (H : Heap) (Q : AV → Heap → Prop) : Prop := awC B cl (ALoop n) c99_0 (ev 40 [(3, x3)]) H (fnQ B a99 (tidyK n Q))
theorem J99_3_eq (B : Base) (cl : CallK) (n : Nat) (x0 : AV) (H : Heap) (Q : AV → Heap → Prop) : awC B cl (ALoop n) b99_3 (keepEnv l99_3 (ev 40 [(0, x0)])) H (fnQ B a99 (tidyK n Q)) =
  (wait (aop B E0 H (fun v1 _ => wait (aop B E0 H (fun v2 _ => ob (peek B H v2) fun c3 => pLive c3 fun v4 => wait (aop B E0 H (fun v5 _ => wait (aop B E0 H (fun v6 _ => ob (peek B H v6) fun c7 => pInt .i64 c7 fun n8 => wait (aop B E0 H (fun v9 _ => cl 80 [v9] H fun v10 H11 => pLive v10 fun v12 => wait (aop B E0 H11 (fun v13 _ => wait (aop B E0 H11 (fun v14 _ => wait (aop B E0 H11 (fun v15 _ => J99_2 B cl n x0 v13 v14 v15 H11 Q) (.extract (some .bool) 2 (.const v12)))) (.extract (some (.int .i64)) 1 (.const v12)))) (.extract (some .str) 0 (.const v12)))) (.sliceL 1 (.const v4) (some (.const (.int .i64 n8))) none none))) (.fieldPtr 1 (.const v5)))) (.nilCheck (.const x0)))) (.fieldPtr 0 (.const v1)))) (.nilCheck (.const x0)))) := by kernel_rfl
theorem J99_3_in {B : Base} {cl : CallK} {n : Nat} {x0 : AV} {H : Heap} {Q : AV → Heap → Prop} (h :
  (aop B E0 H (fun v1 _ => (aop B E0 H (fun v2 _ => ob (peek B H v2) fun c3 => pLive c3 fun v4 => (aop B E0 H (fun v5 _ => (aop B E0 H (fun v6 _ => ob (peek B H v6) fun c7 => pInt .i64 c7 fun n8 => (aop B E0 H (fun v9 _ => cl 80 [v9] H fun v10 H11 => pLive v10 fun v12 => (aop B E0 H11 (fun v13 _ => (aop B E0 H11 (fun v14 _ => (aop B E0 H11 (fun v15 _ => J99_2 B cl n x0 v13 v14 v15 H11 Q) (.extract (some .bool) 2 (.const v12)))) (.extract (some (.int .i64)) 1 (.const v12)))) (.extract (some .str) 0 (.const v12)))) (.sliceL 1 (.const v4) (some (.const (.int .i64 n8))) none none))) (.fieldPtr 1 (.const v5)))) (.nilCheck (.const x0)))) (.fieldPtr 0 (.const v1)))) (.nilCheck (.const x0)))) : J99_3 B cl n x0 H Q := (awC_keep (l := l99_3) (a := b99_3)).2 (Eq.mpr (J99_3_eq B cl n x0 H Q) (by simp only [wait_eq] at h ⊢; exact h))
theorem J99_2_eq (B : Base) (cl : CallK) (n : Nat) (x0 x3 x4 x5 : AV) (H : Heap) (Q : AV → Heap → Prop) : awC B cl (ALoop n) b99_2 (keepEnv l99_2 (ev 40 [(0, x0), (3, x3), (4, x4), (5, x5)])) H (fnQ B a99 (tidyK n Q)) =
  (wait (aop B E0 H (fun v16 _ => wait (aop B E0 H (fun v17 _ => ob (peek B H v17) fun c18 => pInt .i64 c18 fun n19 => pInt .i64 x4 fun n20 => wait (aop B E0 H (fun v21 _ => wait (aop B E0 H (fun v22 _ => wait (aop B E0 H (fun v23 H24 => J99_1 B cl n x0 x3 x5 H24 Q) (.st 1 (.const v22) (.const (.int .i64 (IntKind.i64.wrap (n19 + n20))))))) (.fieldPtr 1 (.const v21)))) (.nilCheck (.const x0)))) (.fieldPtr 1 (.const v16)))) (.nilCheck (.const x0)))) := by kernel_rfl
theorem J99_2_in {B : Base} {cl : CallK} {n : Nat} {x0 x3 x4 x5 : AV} {H : Heap} {Q : AV → Heap → Prop} (h :
  (aop B E0 H (fun v16 _ => (aop B E0 H (fun v17 _ => ob (peek B H v17) fun c18 => pInt .i64 c18 fun n19 => pInt .i64 x4 fun n20 => (aop B E0 H (fun v21 _ => (aop B E0 H (fun v22 _ => (aop B E0 H (fun v23 H24 => J99_1 B cl n x0 x3 x5 H24 Q) (.st 1 (.const v22) (.const (.int .i64 (IntKind.i64.wrap (n19 + n20))))))) (.fieldPtr 1 (.const v21)))) (.nilCheck (.const x0)))) (.fieldPtr 1 (.const v16)))) (.nilCheck (.const x0)))) : J99_2 B cl n x0 x3 x4 x5 H Q := (awC_keep (l := l99_2) (a := b99_2)).2 (Eq.mpr (J99_2_eq B cl n x0 x3 x4 x5 H Q) (by simp only [wait_eq] at h ⊢; exact h))
theorem J99_1_eq (B : Base) (cl : CallK) (n : Nat) (x0 x3 x5 : AV) (H : Heap) (Q : AV → Heap → Prop) : awC B cl (ALoop n) b99_1 (keepEnv l99_1 (ev 40 [(0, x0), (3, x3), (5, x5)])) H (fnQ B a99 (tidyK n Q)) =
  (wait (aop B E0 H (fun v25 _ => wait (aop B E0 H (fun v26 _ => ob (peek B H v26) fun c27 => pBool c27 fun b28 => bs b28 (wait (aop B E0 H (fun v29 _ => wait (aop B E0 H (fun v30 _ => wait (aop B E0 H (fun v31 H32 => J99_0 B cl n x3 H32 Q) (.st 1 (.const v30) (.const (.bool true))))) (.fieldPtr 2 (.const v29)))) (.nilCheck (.const x0)))) (wait (aop B E0 H (fun v33 _ => wait (aop B E0 H (fun v34 _ => wait (aop B E0 H (fun v35 _ => wait (aop B E0 H (fun v36 H37 => J99_0 B cl n x3 H37 Q) (.st 1 (.const v35) (.const v33)))) (.fieldPtr 2 (.const v34)))) (.nilCheck (.const x0)))) (.not (.const x5))))) (.fieldPtr 2 (.const v25)))) (.nilCheck (.const x0)))) := by kernel_rfl
theorem J99_1_in {B : Base} {cl : CallK} {n : Nat} {x0 x3 x5 : AV} {H : Heap} {Q : AV → Heap → Prop} (h :
  (aop B E0 H (fun v25 _ => (aop B E0 H (fun v26 _ => ob (peek B H v26) fun c27 => pBool c27 fun b28 => bs b28 ((aop B E0 H (fun v29 _ => (aop B E0 H (fun v30 _ => (aop B E0 H (fun v31 H32 => J99_0 B cl n x3 H32 Q) (.st 1 (.const v30) (.const (.bool true))))) (.fieldPtr 2 (.const v29)))) (.nilCheck (.const x0)))) ((aop B E0 H (fun v33 _ => (aop B E0 H (fun v34 _ => (aop B E0 H (fun v35 _ => (aop B E0 H (fun v36 H37 => J99_0 B cl n x3 H37 Q) (.st 1 (.const v35) (.const v33)))) (.fieldPtr 2 (.const v34)))) (.nilCheck (.const x0)))) (.not (.const x5))))) (.fieldPtr 2 (.const v25)))) (.nilCheck (.const x0)))) : J99_1 B cl n x0 x3 x5 H Q := (awC_keep (l := l99_1) (a := b99_1)).2 (Eq.mpr (J99_1_eq B cl n x0 x3 x5 H Q) (by simp only [wait_eq] at h ⊢; exact h))
theorem J99_0_eq (B : Base) (cl : CallK) (n : Nat) (x3 : AV) (H : Heap) (Q : AV → Heap → Prop) : awC B cl (ALoop n) b99_0 (keepEnv l99_0 (ev 40 [(3, x3)])) H (fnQ B a99 (tidyK n Q)) =
  (tidyK n Q x3 H) := by kernel_rfl
theorem J99_0_in {B : Base} {cl : CallK} {n : Nat} {x3 : AV} {H : Heap} {Q : AV → Heap → Prop} (h :
  tidyK n Q x3 H) : J99_0 B cl n x3 H Q := (awC_keep (l := l99_0) (a := b99_0)).2 (Eq.mpr (J99_0_eq B cl n x3 H Q) h)
theorem f99_eq (B : Base) (cl : CallK) (n : Nat) (x0 : AV) (H : Heap) (Q : AV → Heap → Prop) : fnK B cl (ALoop n) a99 [x0] H (tidyK n Q) =
  (J99_3 B cl n x0 H Q) := by kernel_rfl
theorem f99_in {B : Base} {x0 : AV} {H : Heap} {Q : AV → Heap → Prop} (h : ∀ n cl, n = H.length → cl = Cl B → LowH n H → LowL n [x0] →
  J99_3 B cl n x0 H Q) : Cl B 99 [x0] H Q := ACall.intro rfl fun h1 h2 => by
    have h3 := h _ _ rfl rfl h1 h2
    exact (Eq.mpr (f99_eq B (Cl B) H.length x0 H Q) h3)

theorem f100_in {B : Base} {x0 : AV} {H : Heap} {Q : AV → Heap → Prop} (h : ∀ n cl, n = H.length → cl = Cl B → LowH n H → LowL n [x0] →
  (aop B E0 H (fun v1 H2 => cl 51 [x0, .int .i64 1099511627776] H2 fun v3 H4 => pInt .i64 v3 fun n5 => cl 50 [x0] H4 fun v6 H7 => pStr v6 fun s8 => (aop B E0 H7 (fun v9 H10 => cl 103 [x0, .int .i64 64, .func (.func 104) [x0] []] H10 fun v11 H12 => pLive v11 fun v13 => ob (layParts [(.int .i64 0), .nils, .nils] [(0, 1, .int .i64 n5), (1, 1, v9), (2, 1, v13)]) fun c14 => (aop B E0 H12 (fun v15 H16 => ob (peekN B H16 3 v1) fun c17 => tidyK n Q (.agg c17) H16) (.st 3 (.const v1) (.const (.agg c14))))) (.toBytes (.const (.str s8))))) (.alloc [(.int .i64 0), .nils, .nils]))) : Cl B 100 [x0] H Q := ACall.intro rfl fun h1 h2 => by
    have h3 := h _ _ rfl rfl h1 h2
    exact (Eq.mpr (by kernel_rfl) h3)

def k101_0 (B : Base) (cl : CallK) (n : Nat) (Q : AV → Heap → Prop) : KQ := (AExit.thenK (fun e h => awC B cl (ALoop n) c101_1 e h (fnQ B a101 (tidyK n Q))) (fnQ B a101 (tidyK n Q)))
def k101_1 (B : Base) (cl : CallK) (n : Nat) (Q : AV → Heap → Prop) : KQ := (AExit.blockK 0 (k101_0 B cl n Q))
def L101_0 (B : Base) (cl : CallK) (n : Nat) (x0 x2 x7 : AV) (x10 x11 : Int) (H : Heap) (Q : AV → Heap → Prop) : Prop := awC B cl (ALoop n) c101_0 (ev 24 [(0, x0), (2, x2), (7, x7), (10, .int .i64 x10), (11, .int .i64 x11)]) H (k101_1 B cl n Q)
def J101_1 (B : Base) (cl : CallK) (n : Nat) (x7 : AV) (H : Heap) (Q : AV → Heap → Prop) : Prop := awC B cl (ALoop n) c101_1 (ev 24 [(7, x7)]) H (fnQ B a101 (tidyK n Q))
theorem L101_0_in {B : Base} {cl : CallK} {n : Nat} {x0 x2 x7 : AV} {x10 x11 : Int} {H : Heap} {Q : AV → Heap → Prop} (hcl : CLe cl cl) (h :
  bs (decide ((x11 : Int) < x10)) ((aop B E0 H (fun v4 _ => (aop B E0 H (fun v5 _ => ob (peek B H v5) fun c6 => pBool c6 fun b7 => bs b7 (tidyK n Q (.nils) H) (calleeK B E0 H [] (fun g10 z11 => cl g10 z11 H fun v8 H9 => pLive v8 fun v12 => ob (layParts [.nils] [(0, 1, v12)]) fun c13 => slK H9 1 1 c13 fun v14 H15 => (aop B E0 H15 (fun v16 H17 => L101_0 B cl n x0 x2 v16 x10 (IntKind.i64.wrap (x11 + 1)) H17 Q) (.append 1 24 (.const x7) (.const v14)))) (.val (.const x2)))) (.fieldPtr 1 (.const v4)))) (.nilCheck (.const x0)))) (J101_1 B cl n x7 H Q)) : L101_0 B cl n x0 x2 x7 x10 x11 H Q := ALoop.round2 (l := l101_0) (a := b101_0) hcl rfl (Eq.mpr (by kernel_rfl) h)
theorem J101_1_in {B : Base} {cl : CallK} {n : Nat} {x7 : AV} {H : Heap} {Q : AV → Heap → Prop} (h :
  tidyK n Q x7 H) : J101_1 B cl n x7 H Q := (awC_keep (l := l101_1) (a := b101_1)).2 (Eq.mpr (by kernel_rfl) h)
theorem f101_in {B : Base} {x0 : AV} {x1 : Int} {x2 : AV} {H : Heap} {Q : AV → Heap → Prop} (h : ∀ n cl, n = H.length → cl = Cl B → LowH n H → LowL n [x0, .int .i64 x1, x2] →
  cl 51 [x0, .int .i64 x1] H fun v1 H2 => pInt .i64 v1 fun n3 => L101_0 B cl n x0 x2 .nils n3 0 H2 Q) : Cl B 101 [x0, .int .i64 x1, x2] H Q := ACall.intro rfl fun h1 h2 => by
    have h3 := h _ _ rfl rfl h1 h2
    exact (Eq.mpr (by kernel_rfl) h3)

theorem f102_in {B : Base} {x0 : AV} {H : Heap} {Q : AV → Heap → Prop} (h : ∀ n cl, n = H.length → cl = Cl B → LowH n H → LowL n [x0] →
  ob (peek B H x0) fun c1 => pLive c1 fun v2 => cl 50 [v2] H fun v3 H4 => pStr v3 fun s5 => (aop B E0 H4 (fun v6 H7 => tidyK n Q v6 H7) (.toBytes (.const (.str s5))))) : Cl B 102 [x0] H Q := ACall.intro rfl fun h1 h2 => by
    have h3 := h _ _ rfl rfl h1 h2
    exact (Eq.mpr (by kernel_rfl) h3)

def k103_0 (B : Base) (cl : CallK) (n : Nat) (Q : AV → Heap → Prop) : KQ := (AExit.thenK (fun e h => awC B cl (ALoop n) c103_1 e h (fnQ B a103 (tidyK n Q))) (fnQ B a103 (tidyK n Q)))
def k103_1 (B : Base) (cl : CallK) (n : Nat) (Q : AV → Heap → Prop) : KQ := (AExit.blockK 0 (k103_0 B cl n Q))
def L103_0 (B : Base) (cl : CallK) (n : Nat) (x0 x2 x7 : AV) (x10 x11 : Int) (H : Heap) (Q : AV → Heap → Prop) : Prop := awC B cl (ALoop n) c103_0 (ev 24 [(0, x0), (2, x2), (7, x7), (10, .int .i64 x10), (11, .int .i64 x11)]) H (k103_1 B cl n Q)
def J103_1 (B : Base) (cl : CallK) (n : Nat) (x7 : AV) (H : Heap) (Q : AV → Heap → Prop) : Prop := awC B cl (ALoop n) c103_1 (ev 24 [(7, x7)]) H (fnQ B a103 (tidyK n Q))
theorem L103_0_in {B : Base} {cl : CallK} {n : Nat} {x0 x2 x7 : AV} {x10 x11 : Int} {H : Heap} {Q : AV → Heap → Prop} (hcl : CLe cl cl) (h :
  bs (decide ((x11 : Int) < x10)) ((aop B E0 H (fun v4 _ => (aop B E0 H (fun v5 _ => ob (peek B H v5) fun c6 => pBool c6 fun b7 => bs b7 (tidyK n Q (.nils) H) (calleeK B E0 H [] (fun g10 z11 => cl g10 z11 H fun v8 H9 => pLive v8 fun v12 => ob (layParts [(.int .u8 0), (.int .u8 0), (.int .u8 0), (.int .u8 0), (.int .u8 0), (.int .u8 0), (.int .u8 0), (.int .u8 0), (.int .u8 0), (.int .u8 0), (.int .u8 0), (.int .u8 0), (.int .u8 0), (.int .u8 0), (.int .u8 0), (.int .u8 0), (.int .u8 0), (.int .u8 0), (.int .u8 0), (.int .u8 0), (.int .u8 0), (.int .u8 0), (.int .u8 0), (.int .u8 0), (.int .u8 0), (.int .u8 0), (.int .u8 0), (.int .u8 0), (.int .u8 0), (.int .u8 0), (.int .u8 0), (.int .u8 0)] [(0, 32, v12)]) fun c13 => slK H9 32 1 c13 fun v14 H15 => (aop B E0 H15 (fun v16 H17 => L103_0 B cl n x0 x2 v16 x10 (IntKind.i64.wrap (x11 + 1)) H17 Q) (.append 32 32 (.const x7) (.const v14)))) (.val (.const x2)))) (.fieldPtr 1 (.const v4)))) (.nilCheck (.const x0)))) (J103_1 B cl n x7 H Q)) : L103_0 B cl n x0 x2 x7 x10 x11 H Q := ALoop.round2 (l := l103_0) (a := b103_0) hcl rfl (Eq.mpr (by kernel_rfl) h)
theorem J103_1_in {B : Base} {cl : CallK} {n : Nat} {x7 : AV} {H : Heap} {Q : AV → Heap → Prop} (h :
  tidyK n Q x7 H) : J103_1 B cl n x7 H Q := (awC_keep (l := l103_1) (a := b103_1)).2 (Eq.mpr (by kernel_rfl) h)
theorem f103_in {B : Base} {x0 : AV} {x1 : Int} {x2 : AV} {H : Heap} {Q : AV → Heap → Prop} (h : ∀ n cl, n = H.length → cl = Cl B → LowH n H → LowL n [x0, .int .i64 x1, x2] →
  cl 51 [x0, .int .i64 x1] H fun v1 H2 => pInt .i64 v1 fun n3 => L103_0 B cl n x0 x2 .nils n3 0 H2 Q) : Cl B 103 [x0, .int .i64 x1, x2] H Q := ACall.intro rfl fun h1 h2 => by
    have h3 := h _ _ rfl rfl h1 h2
    exact (Eq.mpr (by kernel_rfl) h3)

theorem f104_in {B : Base} {x0 : AV} {H : Heap} {Q : AV → Heap → Prop} (h : ∀ n cl, n = H.length → cl = Cl B → LowH n H → LowL n [x0] →
  (aop B E0 H (fun v1 H2 => (aop B E0 H2 (fun v3 _ => (aop B E0 H2 (fun v4 _ => (aop B E0 H2 (fun v5 _ => ob (peek B H2 v5) fun c6 => pLive c6 fun v7 => (aop B E0 H2 (fun v8 H9 => pInt .i64 v8 fun n10 => ibinK .eql .i64 n10 32 fun v11 => cl 79 [x0, v8, v11] H9 fun v12 H13 => tyK .bool v12 fun v14 => ob (peekN B H13 32 v1) fun c15 => (aop B E0 H13 (fun v16 H17 => ob (peekN B H17 32 v1) fun c18 => tidyK n Q (.agg c18) H17) (.st 32 (.const v1) (.const (.agg c15))))) (.copyL 1 (.const v3) (.const v7)))) (.fieldPtr 0 (.const v4)))) (.nilCheck (.const x0)))) (.sliceA 32 1 (.const v1) none none))) (.alloc [(.int .u8 0), (.int .u8 0), (.int .u8 0), (.int .u8 0), (.int .u8 0), (.int .u8 0), (.int .u8 0), (.int .u8 0), (.int .u8 0), (.int .u8 0), (.int .u8 0), (.int .u8 0), (.int .u8 0), (.int .u8 0), (.int .u8 0), (.int .u8 0), (.int .u8 0), (.int .u8 0), (.int .u8 0), (.int .u8 0), (.int .u8 0), (.int .u8 0), (.int .u8 0), (.int .u8 0), (.int .u8 0), (.int .u8 0), (.int .u8 0), (.int .u8 0), (.int .u8 0), (.int .u8 0), (.int .u8 0), (.int .u8 0)]))) : Cl B 104 [x0] H Q := ACall.intro rfl fun h1 h2 => by
    have h3 := h _ _ rfl rfl h1 h2
    exact (Eq.mpr (by kernel_rfl) h3)


end Go.Am
