/- What the functions of the seat do,from label to label. -/
import Derived.Test.YtdkgdkifeedcnaaAf
namespace Go.Am
open Go
set_option maxRecDepth 100000
variable (B : Base) (cl : CallK) (n : Nat)
def k85_0 (Q : Po) : KQ := kt B cl n a85 c85_8 Q
def k85_1 (Q : Po) : KQ := (AExit.blockK 0 (k85_0 B cl n Q))
def k85_2 (Q : Po) : KQ := (AExit.thenK (fun e h => awC B cl (ALoop n) c85_7 e h (k85_1 B cl n Q)) (k85_1 B cl n Q))
def k85_3 (Q : Po) : KQ := (AExit.thenK (fun e h => awC B cl (ALoop n) c85_5 e h (k85_2 B cl n Q)) (k85_2 B cl n Q))
def k85_4 (Q : Po) : KQ := (AExit.blockK 1 (k85_3 B cl n Q))
def k85_5 (Q : Po) : KQ := (AExit.thenK (fun e h => awC B cl (ALoop n) c85_4 e h (k85_4 B cl n Q)) (k85_4 B cl n Q))
def k85_6 (Q : Po) : KQ := (AExit.thenK (fun e h => awC B cl (ALoop n) (.seq (.ops [⟨(some 48),none,(.op (.mov (.tmp 5)))⟩,⟨(some 49),none,(.op (.mov (.tmp 6)))⟩,⟨(some 50),none,(.op (.ibin .add .i64 (.tmp 49) (.const (.int .i64 1))))⟩,⟨(some 2),none,(.op (.mov (.tmp 48)))⟩,⟨(some 3),none,(.op (.mov (.tmp 50)))⟩,⟨(some 4),none,(.op (.mov (.const (.bool true))))⟩]) .ret) e h (k85_4 B cl n Q)) (k85_4 B cl n Q))
def k86_0 (Q : Po) : KQ := kt B cl n a86 c86_1 Q
def k86_1 (Q : Po) : KQ := (AExit.blockK 0 (k86_0 B cl n Q))
def k88_0 (Q : Po) : KQ := kt B cl n a88 c88_1 Q
def k88_1 (Q : Po) : KQ := (AExit.blockK 0 (k88_0 B cl n Q))
def k90_0 (Q : Po) : KQ := kt B cl n a90 c90_1 Q
def k90_1 (Q : Po) : KQ := (AExit.blockK 0 (k90_0 B cl n Q))
def k93_0 (Q : Po) : KQ := kt B cl n a93 c93_1 Q
def k93_1 (Q : Po) : KQ := (AExit.blockK 0 (k93_0 B cl n Q))
def k95_0 (Q : Po) : KQ := kt B cl n a95 c95_1 Q
def k95_1 (Q : Po) : KQ := (AExit.blockK 0 (k95_0 B cl n Q))
def k97_0 (Q : Po) : KQ := kt B cl n a97 c97_1 Q
def k97_1 (Q : Po) : KQ := (AExit.blockK 0 (k97_0 B cl n Q))
def k101_0 (Q : Po) : KQ := kt B cl n a101 c101_1 Q
def k101_1 (Q : Po) : KQ := (AExit.blockK 0 (k101_0 B cl n Q))
def k103_0 (Q : Po) : KQ := kt B cl n a103 c103_1 Q
def k103_1 (Q : Po) : KQ := (AExit.blockK 0 (k103_0 B cl n Q))
def k105_0 (Q : Po) : KQ := kt B cl n a105 c105_2 Q
def L85_7 (x0 : List UInt8) (x5 x6 : Int) (H : Heap) (Q : Po) := jw B cl n c85_7 (ev 51 [(0,.str x0),(5,.int .u64 x5),(6,.int .i64 x6)]) H (k85_1 B cl n Q)
def J85_6 (x0 : List UInt8) (x5 x6 : Int) (H : Heap) (Q : Po) := jw B cl n c85_6 (ev 51 [(0,.str x0),(5,.int .u64 x5),(6,.int .i64 x6)]) H (k85_2 B cl n Q)
def J85_8 (H : Heap) (Q : Po) := jn B cl n a85 c85_8 (ev 51 []) H Q
def J85_0 (x0 : List UInt8) (x5 x6 : Int) (x24 : AV) (H : Heap) (Q : Po) := jw B cl n c85_0 (ev 51 [(0,.str x0),(5,.int .u64 x5),(6,.int .i64 x6),(24,x24)]) H (k85_5 B cl n Q)
def J85_4 (x0 : List UInt8) (x5 x6 : Int) (H : Heap) (Q : Po) := jw B cl n c85_4 (ev 51 [(0,.str x0),(5,.int .u64 x5),(6,.int .i64 x6)]) H (k85_4 B cl n Q)
def J85_3 (x0 : List UInt8) (x5 x6 : Int) (H : Heap) (Q : Po) := jw B cl n c85_3 (ev 51 [(0,.str x0),(5,.int .u64 x5),(6,.int .i64 x6)]) H (k85_4 B cl n Q)
def J85_2 (x0 : List UInt8) (x5 x6 : Int) (x39 : AV) (H : Heap) (Q : Po) := jw B cl n c85_2 (ev 51 [(0,.str x0),(5,.int .u64 x5),(6,.int .i64 x6),(39,x39)]) H (k85_4 B cl n Q)
def J85_1 (x5 x6 : Int) (x47 : AV) (H : Heap) (Q : Po) := jw B cl n c85_1 (ev 51 [(5,.int .u64 x5),(6,.int .i64 x6),(47,x47)]) H (k85_6 B cl n Q)
def J85_5 (x0 : List UInt8) (x5 x6 : Int) (H : Heap) (Q : Po) := jw B cl n c85_5 (ev 51 [(0,.str x0),(5,.int .u64 x5),(6,.int .i64 x6)]) H (k85_2 B cl n Q)
def L86_0 (x0 x2 x7 : AV) (x10 x11 : Int) (H : Heap) (Q : Po) := jw B cl n c86_0 (ev 24 [(0,x0),(2,x2),(7,x7),(10,.int .i64 x10),(11,.int .i64 x11)]) H (k86_1 B cl n Q)
def J86_1 (x7 : AV) (H : Heap) (Q : Po) := jn B cl n a86 c86_1 (ev 24 [(7,x7)]) H Q
def J87_0 (x2 x3 : AV) (H : Heap) (Q : Po) := jn B cl n a87 c87_0 (ev 16 [(2,x2),(3,x3)]) H Q
def L88_0 (x0 x2 x7 : AV) (x10 x11 : Int) (H : Heap) (Q : Po) := jw B cl n c88_0 (ev 24 [(0,x0),(2,x2),(7,x7),(10,.int .i64 x10),(11,.int .i64 x11)]) H (k88_1 B cl n Q)
def J88_1 (x7 : AV) (H : Heap) (Q : Po) := jn B cl n a88 c88_1 (ev 24 [(7,x7)]) H Q
def L90_0 (x0 x2 x7 : AV) (x10 x11 : Int) (H : Heap) (Q : Po) := jw B cl n c90_0 (ev 24 [(0,x0),(2,x2),(7,x7),(10,.int .i64 x10),(11,.int .i64 x11)]) H (k90_1 B cl n Q)
def J90_1 (x7 : AV) (H : Heap) (Q : Po) := jn B cl n a90 c90_1 (ev 24 [(7,x7)]) H Q
def L93_0 (x0 : AV) (x3 : Int) (x4 : AV) (x5 : Int) (H : Heap) (Q : Po) := jw B cl n c93_0 (ev 28 [(0,x0),(3,.int .i64 x3),(4,x4),(5,.int .i64 x5)]) H (k93_1 B cl n Q)
def J93_1 (x4 : AV) (H : Heap) (Q : Po) := jn B cl n a93 c93_1 (ev 28 [(4,x4)]) H Q
def L95_0 (x0 x1 : AV) (x6 : Int) (H : Heap) (Q : Po) := jw B cl n c95_0 (ev 28 [(0,x0),(1,x1),(6,.int .i64 x6)]) H (k95_1 B cl n Q)
def J95_1 (x0 x1 : AV) (H : Heap) (Q : Po) := jn B cl n a95 c95_1 (ev 28 [(0,x0),(1,x1)]) H Q
def L97_0 (x0 x1 : AV) (x5 : Int) (H : Heap) (Q : Po) := jw B cl n c97_0 (ev 26 [(0,x0),(1,x1),(5,.int .i64 x5)]) H (k97_1 B cl n Q)
def J97_1 (H : Heap) (Q : Po) := jn B cl n a97 c97_1 (ev 26 []) H Q
def J98_3 (x0 : AV) (H : Heap) (Q : Po) := jn B cl n a98 c98_3 (ev 40 [(0,x0)]) H Q
def J98_2 (x0 x3 x4 x5 : AV) (H : Heap) (Q : Po) := jn B cl n a98 c98_2 (ev 40 [(0,x0),(3,x3),(4,x4),(5,x5)]) H Q
def J98_1 (x0 x3 x5 : AV) (H : Heap) (Q : Po) := jn B cl n a98 c98_1 (ev 40 [(0,x0),(3,x3),(5,x5)]) H Q
def J98_0 (x3 : AV) (H : Heap) (Q : Po) := jn B cl n a98 c98_0 (ev 40 [(3,x3)]) H Q
def J99_3 (x0 : AV) (H : Heap) (Q : Po) := jn B cl n a99 c99_3 (ev 40 [(0,x0)]) H Q
def J99_2 (x0 x3 x4 x5 : AV) (H : Heap) (Q : Po) := jn B cl n a99 c99_2 (ev 40 [(0,x0),(3,x3),(4,x4),(5,x5)]) H Q
def J99_1 (x0 x3 x5 : AV) (H : Heap) (Q : Po) := jn B cl n a99 c99_1 (ev 40 [(0,x0),(3,x3),(5,x5)]) H Q
def J99_0 (x3 : AV) (H : Heap) (Q : Po) := jn B cl n a99 c99_0 (ev 40 [(3,x3)]) H Q
def L101_0 (x0 x2 x7 : AV) (x10 x11 : Int) (H : Heap) (Q : Po) := jw B cl n c101_0 (ev 24 [(0,x0),(2,x2),(7,x7),(10,.int .i64 x10),(11,.int .i64 x11)]) H (k101_1 B cl n Q)
def J101_1 (x7 : AV) (H : Heap) (Q : Po) := jn B cl n a101 c101_1 (ev 24 [(7,x7)]) H Q
def L103_0 (x0 x2 x7 : AV) (x10 x11 : Int) (H : Heap) (Q : Po) := jw B cl n c103_0 (ev 24 [(0,x0),(2,x2),(7,x7),(10,.int .i64 x10),(11,.int .i64 x11)]) H (k103_1 B cl n Q)
def J103_1 (x7 : AV) (H : Heap) (Q : Po) := jn B cl n a103 c103_1 (ev 24 [(7,x7)]) H Q
def J105_4 (x0 x2 : AV) (H : Heap) (Q : Po) := jn B cl n a105 c105_4 (ev 36 [(0,x0),(2,x2)]) H Q
def J105_3 (x0 x2 x3 : AV) (H : Heap) (Q : Po) := jn B cl n a105 c105_3 (ev 36 [(0,x0),(2,x2),(3,x3)]) H Q
def J105_0 (x0 x2 x3 x15 : AV) (H : Heap) (Q : Po) := jw B cl n c105_0 (ev 36 [(0,x0),(2,x2),(3,x3),(15,x15)]) H (k105_0 B cl n Q)
def J105_2 (x0 x2 x3 : AV) (H : Heap) (Q : Po) := jn B cl n a105 c105_2 (ev 36 [(0,x0),(2,x2),(3,x3)]) H Q
def J105_1 (x0 x2 x3 : AV) (H : Heap) (Q : Po) := jn B cl n a105 c105_1 (ev 36 [(0,x0),(2,x2),(3,x3)]) H Q
variable {B cl n} {H : Heap} {Q : Po}
theorem L85_7_in {x0 : List UInt8} {x5 x6 : Int} (hcl : CLe cl cl) (h :
 bs (decide ((x6 : Int) < ((List.length x0 : Nat) : Int))) (bs (decide ((x6 : Int) < 10)) (J85_6 B cl n x0 x5 x6 H Q) (J85_8 B cl n H Q)) (J85_8 B cl n H Q)) : L85_7 B cl n x0 x5 x6 H Q := ALoop.round2 hcl rfl (Eq.mpr (by kernel_rfl) h)
theorem J85_6_in {x0 : List UInt8} {x5 x6 : Int} (h :
 bs ((x6 : Int) == 9) ((ap B H (.indexS (.const (.str x0)) (.const (.int .i64 x6))) fun v1 _ => pInt .u8 v1 fun n2 => ibinK .gtr .u8 n2 1 fun v3 => J85_0 B cl n x0 x5 x6 v3 H Q)) (J85_0 B cl n x0 x5 x6 (.bool false) H Q)) : J85_6 B cl n x0 x5 x6 H Q := kp (by kernel_rfl) h
theorem J85_8_in (h :
 tidyK n Q (.tuple [.int .u64 0,.int .i64 0,.bool false]) H) : J85_8 B cl n  H Q := kp (by kernel_rfl) h
theorem J85_0_in {x0 : List UInt8} {x5 x6 : Int} {x24 : AV} (h :
 pBool x24 fun b4 => (if b4 = true then tidyK n Q (.tuple [.int .u64 0,.int .i64 0,.bool false]) H else J85_4 B cl n x0 x5 x6 H Q)) : J85_0 B cl n x0 x5 x6 x24 H Q := kp (by kernel_rfl) h
theorem J85_4_in {x0 : List UInt8} {x5 x6 : Int} (h :
 (ap B H (.indexS (.const (.str x0)) (.const (.int .i64 x6))) fun v5 _ => pInt .u8 v5 fun n6 => (if (128 : Int) = 0 then False else (ap B H (.shf .shl .u64 (.const (.int .u64 (IntKind.u64.wrap (Int.tmod n6 128)))) (.const (.int .u64 (IntKind.u64.wrap (IntKind.i64.wrap (7 * x6)))))) fun v7 _ => pInt .u64 v7 fun n8 => J85_3 B cl n x0 (bitsOp .or IntKind.u64 x5 n8) x6 H Q)))) : J85_4 B cl n x0 x5 x6 H Q := kp (by kernel_rfl) h
theorem J85_3_in {x0 : List UInt8} {x5 x6 : Int} (h :
 (ap B H (.indexS (.const (.str x0)) (.const (.int .i64 x6))) fun v9 _ => pInt .u8 v9 fun n10 => ibinK .lss .u8 n10 128 fun v11 => J85_2 B cl n x0 x5 x6 v11 H Q)) : J85_3 B cl n x0 x5 x6 H Q := kp (by kernel_rfl) h
theorem J85_2_in {x0 : List UInt8} {x5 x6 : Int} {x39 : AV} (h :
 pBool x39 fun b12 => (if b12 = true then bs (decide ((x6 : Int) > 0)) ((ap B H (.indexS (.const (.str x0)) (.const (.int .i64 x6))) fun v13 _ => pInt .u8 v13 fun n14 => ibinK .eql .u8 n14 0 fun v15 => J85_1 B cl n x5 x6 v15 H Q)) (J85_1 B cl n x5 x6 (.bool false) H Q) else J85_5 B cl n x0 x5 x6 H Q)) : J85_2 B cl n x0 x5 x6 x39 H Q := kp (by kernel_rfl) h
theorem J85_1_in {x5 x6 : Int} {x47 : AV} (h :
 pBool x47 fun b16 => (if b16 = true then tidyK n Q (.tuple [.int .u64 0,.int .i64 0,.bool false]) H else tidyK n Q (.tuple [.int .u64 x5,.int .i64 (IntKind.i64.wrap (x6 + 1)),.bool true]) H)) : J85_1 B cl n x5 x6 x47 H Q := kp (by kernel_rfl) h
theorem J85_5_in {x0 : List UInt8} {x5 x6 : Int} (h :
 L85_7 B cl n x0 x5 (IntKind.i64.wrap (x6 + 1)) H Q) : J85_5 B cl n x0 x5 x6 H Q := kp (by kernel_rfl) h
theorem f85_in {x0 : List UInt8} (h : fi B H [.str x0] fun n cl =>
 L85_7 B cl n x0 0 0 H Q) : Cl B 85 [.str x0] H Q := fin rfl h (by kernel_rfl)
theorem L86_0_in {x0 x2 x7 : AV} {x10 x11 : Int} (hcl : CLe cl cl) (h :
 bs (decide ((x11 : Int) < x10)) ((ap B H (oN x0) fun v4 _ => (ap B H (oF 1 v4) fun v5 _ => ob (peek B H v5) fun c6 => pBool c6 fun b7 => bs b7 (tidyK n Q (.nils) H) (calleeK B E0 H [] (fun g10 z11 => cl g10 z11 H fun v8 H9 => pLive v8 fun v12 => ob (layParts [(.bool false),(.int .i64 0),.nils,.nils,(.int .i64 0),.nils,.nils] [(0,7,v12)]) fun c13 => slK H9 7 1 c13 fun v14 H15 => (ap B H15 (oA 7 120 x7 v14) fun v16 H17 => L86_0 B cl n x0 x2 v16 x10 (IntKind.i64.wrap (x11 + 1)) H17 Q)) (.val (.const x2)))))) (J86_1 B cl n x7 H Q)) : L86_0 B cl n x0 x2 x7 x10 x11 H Q := ALoop.round2 hcl rfl (Eq.mpr (by kernel_rfl) h)
theorem J86_1_in {x7 : AV} (h :
 tidyK n Q x7 H) : J86_1 B cl n x7 H Q := kp (by kernel_rfl) h
theorem f86_in {x0 : AV} {x1 : Int} {x2 : AV} (h : fi B H [x0,.int .i64 x1,x2] fun n cl =>
 cl 51 [x0,.int .i64 x1] H fun v1 H2 => pInt .i64 v1 fun n3 => L86_0 B cl n x0 x2 .nils n3 0 H2 Q) : Cl B 86 [x0,.int .i64 x1,x2] H Q := fin rfl h (by kernel_rfl)
theorem J87_0_in {x2 x3 : AV} (h :
 ob (peekN B H 7 x3) fun c24 => (ap B H (oS 7 x2 (.agg c24)) fun v25 H26 => ob (peekN B H26 7 x2) fun c27 => tidyK n Q (.agg c27) H26)) : J87_0 B cl n x2 x3 H Q := kp (by kernel_rfl) h
theorem f87_in {x0 : AV} (h : fi B H [x0] fun n cl =>
 (ap B H (.alloc [(.bool false),(.int .i64 0),.nils,.nils,(.int .i64 0),.nils,.nils]) fun v1 H2 => cl 51 [x0,.int .i64 1] H2 fun v3 H4 => pInt .i64 v3 fun n5 => ibinK .eql .i64 n5 1 fun v6 => cl 100 [x0] H4 fun v7 H8 => pLive v7 fun v9 => ob (layParts [(.bool false),(.int .i64 0),.nils,.nils,(.int .i64 0),.nils,.nils] [(0,1,v6),(1,3,v9)]) fun c10 => (ap B H8 (.alloc [(.bool false),(.int .i64 0),.nils,.nils,(.int .i64 0),.nils,.nils]) fun v11 H12 => (ap B H12 (oS 7 v11 (.agg c10)) fun v13 H14 => (ap B H14 (oF 0 v11) fun v15 _ => ob (peek B H14 v15) fun c16 => pBool c16 fun b17 => bs b17 (cl 100 [x0] H14 fun v18 H19 => pLive v18 fun v20 => (ap B H19 (oF 4 v11) fun v21 _ => (ap B H19 (oS 3 v21 v20) fun v22 H23 => J87_0 B cl n v1 v11 H23 Q))) (J87_0 B cl n v1 v11 H14 Q)))))) : Cl B 87 [x0] H Q := fin rfl h (by kernel_rfl)
theorem L88_0_in {x0 x2 x7 : AV} {x10 x11 : Int} (hcl : CLe cl cl) (h :
 bs (decide ((x11 : Int) < x10)) ((ap B H (oN x0) fun v4 _ => (ap B H (oF 1 v4) fun v5 _ => ob (peek B H v5) fun c6 => pBool c6 fun b7 => bs b7 (tidyK n Q (.nils) H) (calleeK B E0 H [] (fun g10 z11 => cl g10 z11 H fun v8 H9 => pLive v8 fun v12 => ob (layParts [(.int .i64 0),.nils,.nils] [(0,3,v12)]) fun c13 => slK H9 3 1 c13 fun v14 H15 => (ap B H15 (oA 3 56 x7 v14) fun v16 H17 => L88_0 B cl n x0 x2 v16 x10 (IntKind.i64.wrap (x11 + 1)) H17 Q)) (.val (.const x2)))))) (J88_1 B cl n x7 H Q)) : L88_0 B cl n x0 x2 x7 x10 x11 H Q := ALoop.round2 hcl rfl (Eq.mpr (by kernel_rfl) h)
theorem J88_1_in {x7 : AV} (h :
 tidyK n Q x7 H) : J88_1 B cl n x7 H Q := kp (by kernel_rfl) h
theorem f88_in {x0 : AV} {x1 : Int} {x2 : AV} (h : fi B H [x0,.int .i64 x1,x2] fun n cl =>
 cl 51 [x0,.int .i64 x1] H fun v1 H2 => pInt .i64 v1 fun n3 => L88_0 B cl n x0 x2 .nils n3 0 H2 Q) : Cl B 88 [x0,.int .i64 x1,x2] H Q := fin rfl h (by kernel_rfl)
theorem f89_in {x0 : AV} (h : fi B H [x0] fun n cl =>
 (ap B H (.box 1 (.const x0)) fun v1 H2 => (ap B H2 (.alloc [(.int .i64 0),.nils,.nils]) fun v3 H4 => ob (peek B H4 v1) fun c5 => pLive c5 fun v6 => ob (peek B H4 v1) fun c7 => pLive c7 fun v8 => ob (peek B H4 v1) fun c9 => pLive c9 fun v10 => ob (peek B H4 v1) fun c11 => pLive c11 fun v12 => cl 51 [v6,.int .i64 1099511627776] H4 fun v13 H14 => pInt .i64 v13 fun n15 => ((.func (.func 104) [v12] [] : AV) = .func (.func 104) [v12] []) ∧ ((ob (peek B H14 v1) fun c34 => pLive c34 fun v35 => (v35 : AV) = v12) ∧ ((ob (peek B H14 v1) fun c32 => pLive c32 fun v33 => (v33 : AV) = v10) ∧ (((.func (.func 102) [] [v1] : AV) = .func (.func 102) [] [v1]) ∧ ((ob (peek B H14 v1) fun c30 => pLive c30 fun v31 => (v31 : AV) = v8) ∧ (cl 101 [v8,.int .i64 64,.func (.func 102) [] [v1]] H14 fun v16 H17 => pLive v16 fun v18 => ((.func (.func 104) [v12] [] : AV) = .func (.func 104) [v12] []) ∧ ((ob (peek B H17 v1) fun c28 => pLive c28 fun v29 => (v29 : AV) = v12) ∧ ((ob (peek B H17 v1) fun c26 => pLive c26 fun v27 => (v27 : AV) = v10) ∧ (cl 103 [v10,.int .i64 64,.func (.func 104) [v12] []] H17 fun v19 H20 => pLive v19 fun v21 => ob (layParts [(.int .i64 0),.nils,.nils] [(0,1,.int .i64 n15),(1,1,v18),(2,1,v21)]) fun c22 => (ap B H20 (oS 3 v3 (.agg c22)) fun v23 H24 => ob (peekN B H24 3 v3) fun c25 => tidyK n Q (.agg c25) H24)))))))))))) : Cl B 89 [x0] H Q := fin rfl h (by kernel_rfl)
theorem L90_0_in {x0 x2 x7 : AV} {x10 x11 : Int} (hcl : CLe cl cl) (h :
 bs (decide ((x11 : Int) < x10)) ((ap B H (oN x0) fun v4 _ => (ap B H (oF 1 v4) fun v5 _ => ob (peek B H v5) fun c6 => pBool c6 fun b7 => bs b7 (tidyK n Q (.nils) H) (calleeK B E0 H [] (fun g10 z11 => cl g10 z11 H fun v8 H9 => pLive v8 fun v12 => ob (layParts [.nils] [(0,1,v12)]) fun c13 => slK H9 1 1 c13 fun v14 H15 => (ap B H15 (oA 1 24 x7 v14) fun v16 H17 => L90_0 B cl n x0 x2 v16 x10 (IntKind.i64.wrap (x11 + 1)) H17 Q)) (.val (.const x2)))))) (J90_1 B cl n x7 H Q)) : L90_0 B cl n x0 x2 x7 x10 x11 H Q := ALoop.round2 hcl rfl (Eq.mpr (by kernel_rfl) h)
theorem J90_1_in {x7 : AV} (h :
 tidyK n Q x7 H) : J90_1 B cl n x7 H Q := kp (by kernel_rfl) h
theorem f90_in {x0 : AV} {x1 : Int} {x2 : AV} (h : fi B H [x0,.int .i64 x1,x2] fun n cl =>
 cl 51 [x0,.int .i64 x1] H fun v1 H2 => pInt .i64 v1 fun n3 => L90_0 B cl n x0 x2 .nils n3 0 H2 Q) : Cl B 90 [x0,.int .i64 x1,x2] H Q := fin rfl h (by kernel_rfl)
theorem f91_in {x0 : AV} (h : fi B H [x0] fun n cl =>
 cl 48 [x0,.int .i64 64,.func (.func 49) [x0] []] H fun v1 H2 => pLive v1 fun v3 => tidyK n Q v3 H2) : Cl B 91 [x0] H Q := fin rfl h (by kernel_rfl)
theorem f92_in {x0 : AV} (h : fi B H [x0] fun n cl =>
 (ap B H (.alloc [(.int .i64 0),.nils,.nils]) fun v1 H2 => cl 55 [x0,.int .i64 1099511627776] H2 fun v3 H4 => pInt .i64 v3 fun n5 => cl 54 [x0] H4 fun v6 H7 => pStr v6 fun s8 => cl 93 [x0] H7 fun v9 H10 => pLive v9 fun v11 => (ap B H10 (.toBytes (.const (.str s8))) fun v12 H13 => ob (layParts [(.int .i64 0),.nils,.nils] [(0,1,.int .i64 n5),(1,1,v12),(2,1,v11)]) fun c14 => (ap B H13 (oS 3 v1 (.agg c14)) fun v15 H16 => ob (peekN B H16 3 v1) fun c17 => tidyK n Q (.agg c17) H16)))) : Cl B 92 [x0] H Q := fin rfl h (by kernel_rfl)
theorem L93_0_in {x0 : AV} {x3 : Int} {x4 : AV} {x5 : Int} (hcl : CLe cl cl) (h :
 bs (decide ((x5 : Int) < x3)) ((ap B H (oN x0) fun v4 _ => (ap B H (oF 1 v4) fun v5 _ => ob (peek B H v5) fun c6 => pBool c6 fun b7 => bs b7 (J93_1 B cl n x4 H Q) (cl 105 [x0] H fun v8 H9 => pLive v8 fun v10 => (ap B H9 (.alloc z32) fun v11 H12 => (ap B H12 (oS 32 v11 v10) fun v13 H14 => ob (peekN B H14 32 v11) fun c15 => ob (layParts z32 [(0,32,.agg c15)]) fun c16 => slK H14 32 1 c16 fun v17 H18 => (ap B H18 (oA 32 32 x4 v17) fun v19 H20 => L93_0 B cl n x0 x3 v19 (IntKind.i64.wrap (x5 + 1)) H20 Q))))))) (J93_1 B cl n x4 H Q)) : L93_0 B cl n x0 x3 x4 x5 H Q := ALoop.round2 hcl rfl (Eq.mpr (by kernel_rfl) h)
theorem J93_1_in {x4 : AV} (h :
 tidyK n Q x4 H) : J93_1 B cl n x4 H Q := kp (by kernel_rfl) h
theorem f93_in {x0 : AV} (h : fi B H [x0] fun n cl =>
 cl 55 [x0,.int .i64 64] H fun v1 H2 => pInt .i64 v1 fun n3 => L93_0 B cl n x0 n3 .nils 0 H2 Q) : Cl B 93 [x0] H Q := fin rfl h (by kernel_rfl)
theorem f94_in {x0 : List UInt8} {x1 : AV} (h : fi B H [.str x0,x1] fun n cl =>
 (ap B H (.box 3 (.const x1)) fun v1 H2 => (ap B H2 (oF 0 v1) fun v3 _ => ob (peek B H2 v3) fun c4 => pInt .i64 c4 fun n5 => cl 33 [.int .i64 n5] H2 fun v6 H7 => pBool v6 fun b8 => bs b8 ((ap B H7 (oF 0 v1) fun v9 _ => ob (peek B H7 v9) fun c10 => pInt .i64 c10 fun n11 => (ap B H7 (oF 1 v1) fun v12 _ => ob (peek B H7 v12) fun c13 => pLive c13 fun v14 => (ap B H7 (.toStr (.const v14)) fun v15 _ => (ap B H7 (oF 2 v1) fun v16 _ => ob (peek B H7 v16) fun c17 => pLive c17 fun v18 => cl 34 [.str x0,.int .i64 n11] H7 fun v19 H20 => pStr v19 fun s21 => (ob (peek B H20 v16) fun c38 => pLive c38 fun v39 => (v39 : AV) = v18) ∧ (((ap B H20 (oF 2 v1) fun v37 _ => (v37 : AV) = v16)) ∧ (((ap B H20 (.toStr (.const v14)) fun v36 _ => (v36 : AV) = v15)) ∧ ((ob (peek B H20 v12) fun c34 => pLive c34 fun v35 => (v35 : AV) = v14) ∧ (((ap B H20 (oF 1 v1) fun v33 _ => (v33 : AV) = v12)) ∧ (cl 32 [.str s21,v15] H20 fun v22 H23 => pStr v22 fun s24 => (ob (peek B H23 v16) fun c31 => pLive c31 fun v32 => (v32 : AV) = v18) ∧ (((ap B H23 (oF 2 v1) fun v30 _ => (v30 : AV) = v16)) ∧ (cl 95 [.str s24,v18] H23 fun v25 H26 => pLive v25 fun v27 => (ap B H26 (oX 0 (some .str) v27) fun v28 _ => (ap B H26 (oX 1 (some .bool) v27) fun v29 _ => tidyK n Q (.tuple [v28,v29]) H26)))))))))))))) (tidyK n Q (.tuple [.str x0,.bool false]) H7)))) : Cl B 94 [.str x0,x1] H Q := fin rfl h (by kernel_rfl)
theorem L95_0_in {x0 x1 : AV} {x6 : Int} (hcl : CLe cl cl) (h :
 ob (lenOf x1) fun k5 => bs (decide ((x6 : Int) < (k5 : Int))) ((ap B H (oI 32 x1 (.int .i64 x6)) fun v6 _ => (ap B H (.sliceA 32 1 (.const v6) none none) fun v7 _ => (ap B H (.toStr (.const v7)) fun v8 _ => pStr x0 fun s9 => pStr v8 fun s10 => sbinK .add s9 s10 fun v11 => L95_0 B cl n v11 x1 (IntKind.i64.wrap (x6 + 1)) H Q)))) (J95_1 B cl n x0 x1 H Q)) : L95_0 B cl n x0 x1 x6 H Q := ALoop.round2 hcl rfl (Eq.mpr (by kernel_rfl) h)
theorem J95_1_in {x0 x1 : AV} (h :
 ob (lenOf x1) fun k12 => ibinK .leq .i64 (k12 : Int) 64 fun v13 => tidyK n Q (.tuple [x0,v13]) H) : J95_1 B cl n x0 x1 H Q := kp (by kernel_rfl) h
theorem f95_in {x0 : List UInt8} {x1 : AV} (h : fi B H [.str x0,x1] fun n cl =>
 ob (lenOf x1) fun k1 => cl 34 [.str x0,.int .i64 (k1 : Int)] H fun v2 H3 => pStr v2 fun s4 => L95_0 B cl n (.str s4) x1 0 H3 Q) : Cl B 95 [.str x0,x1] H Q := fin rfl h (by kernel_rfl)
theorem f96_in {x0 x1 : AV} (h : fi B H [x0,x1] fun n cl =>
 (ap B H (.box 3 (.const x0)) fun v1 H2 => (ap B H2 (.box 3 (.const x1)) fun v3 H4 => (ap B H4 (oF 0 v1) fun v5 _ => ob (peek B H4 v5) fun c6 => pInt .i64 c6 fun n7 => (ap B H4 (oF 0 v3) fun v8 _ => ob (peek B H4 v8) fun c9 => pInt .i64 c9 fun n10 => bs ((n7 : Int) == n10) ((ap B H4 (oF 1 v1) fun v11 _ => ob (peek B H4 v11) fun c12 => pLive c12 fun v13 => (ap B H4 (.toStr (.const v13)) fun v14 _ => (ap B H4 (oF 1 v3) fun v15 _ => ob (peek B H4 v15) fun c16 => pLive c16 fun v17 => (ap B H4 (.toStr (.const v17)) fun v18 _ => pStr v14 fun s19 => pStr v18 fun s20 => bs (s19 == s20) ((ap B H4 (oF 2 v1) fun v21 _ => ob (peek B H4 v21) fun c22 => pLive c22 fun v23 => (ap B H4 (oF 2 v3) fun v24 _ => ob (peek B H4 v24) fun c25 => pLive c25 fun v26 => cl 97 [v23,v26] H4 fun v27 H28 => tyK .bool v27 fun v29 => tidyK n Q v29 H28))) (tidyK n Q (.bool false) H4)))))) (tidyK n Q (.bool false) H4)))))) : Cl B 96 [x0,x1] H Q := fin rfl h (by kernel_rfl)
theorem L97_0_in {x0 x1 : AV} {x5 : Int} (hcl : CLe cl cl) (h :
 ob (lenOf x0) fun k3 => bs (decide ((x5 : Int) < (k3 : Int))) ((ap B H (oI 32 x0 (.int .i64 x5)) fun v4 _ => ob (peekN B H 32 v4) fun c5 => (ap B H (oI 32 x1 (.int .i64 x5)) fun v6 _ => ob (peekN B H 32 v6) fun c7 => (ap B H (.aeq true 32 p32 (.const (.agg c5)) (.const (.agg c7))) fun v8 _ => pBool v8 fun b9 => (if b9 = true then tidyK n Q (.bool false) H else L97_0 B cl n x0 x1 (IntKind.i64.wrap (x5 + 1)) H Q))))) (J97_1 B cl n H Q)) : L97_0 B cl n x0 x1 x5 H Q := ALoop.round2 hcl rfl (Eq.mpr (by kernel_rfl) h)
theorem J97_1_in (h :
 tidyK n Q (.bool true) H) : J97_1 B cl n  H Q := kp (by kernel_rfl) h
theorem f97_in {x0 x1 : AV} (h : fi B H [x0,x1] fun n cl =>
 ob (lenOf x0) fun k1 => ob (lenOf x1) fun k2 => bs (((k1 : Int) : Int) != (k2 : Int)) (tidyK n Q (.bool false) H) (L97_0 B cl n x0 x1 0 H Q)) : Cl B 97 [x0,x1] H Q := fin rfl h (by kernel_rfl)
theorem J98_3_in {x0 : AV} (h :
 (ap B H (oN x0) fun v1 _ => (ap B H (oF 0 v1) fun v2 _ => ob (peek B H v2) fun c3 => pLive c3 fun v4 => (ap B H (oN x0) fun v5 _ => (ap B H (oF 1 v5) fun v6 _ => ob (peek B H v6) fun c7 => pInt .i64 c7 fun n8 => (ap B H (.sliceL 1 (.const v4) (some (.const (.int .i64 n8))) none none) fun v9 _ => cl 81 [v9] H fun v10 H11 => pLive v10 fun v12 => (ap B H11 (oX 0 (some (.int .u64)) v12) fun v13 _ => (ap B H11 (oX 1 (some (.int .i64)) v12) fun v14 _ => (ap B H11 (oX 2 (some .bool) v12) fun v15 _ => J98_2 B cl n x0 v13 v14 v15 H11 Q))))))))) : J98_3 B cl n x0 H Q := kp (by simp only [ap,aop_w]; kernel_rfl) h
theorem J98_2_in {x0 x3 x4 x5 : AV} (h :
 (ap B H (oN x0) fun v16 _ => (ap B H (oF 1 v16) fun v17 _ => ob (peek B H v17) fun c18 => pInt .i64 c18 fun n19 => pInt .i64 x4 fun n20 => (ap B H (oN x0) fun v21 _ => (ap B H (oF 1 v21) fun v22 _ => (ap B H (oS 1 v22 (.int .i64 (IntKind.i64.wrap (n19 + n20)))) fun v23 H24 => J98_1 B cl n x0 x3 x5 H24 Q)))))) : J98_2 B cl n x0 x3 x4 x5 H Q := kp (by simp only [ap,aop_w]; kernel_rfl) h
theorem J98_1_in {x0 x3 x5 : AV} (h :
 (ap B H (oN x0) fun v25 _ => (ap B H (oF 2 v25) fun v26 _ => ob (peek B H v26) fun c27 => pBool c27 fun b28 => bs b28 ((ap B H (oN x0) fun v29 _ => (ap B H (oF 2 v29) fun v30 _ => (ap B H (oS 1 v30 (.bool true)) fun v31 H32 => J98_0 B cl n x3 H32 Q)))) ((ap B H (.not (.const x5)) fun v33 _ => (ap B H (oN x0) fun v34 _ => (ap B H (oF 2 v34) fun v35 _ => (ap B H (oS 1 v35 v33) fun v36 H37 => J98_0 B cl n x3 H37 Q)))))))) : J98_1 B cl n x0 x3 x5 H Q := kp (by simp only [ap,aop_w]; kernel_rfl) h
theorem J98_0_in {x3 : AV} (h :
 tidyK n Q x3 H) : J98_0 B cl n x3 H Q := kp (by kernel_rfl) h
theorem f98_in {x0 : AV} (h : fi B H [x0] fun n cl =>
 J98_3 B cl n x0 H Q) : Cl B 98 [x0] H Q := fin rfl h (by kernel_rfl)
theorem J99_3_in {x0 : AV} (h :
 (ap B H (oN x0) fun v1 _ => (ap B H (oF 0 v1) fun v2 _ => ob (peek B H v2) fun c3 => pLive c3 fun v4 => (ap B H (oN x0) fun v5 _ => (ap B H (oF 1 v5) fun v6 _ => ob (peek B H v6) fun c7 => pInt .i64 c7 fun n8 => (ap B H (.sliceL 1 (.const v4) (some (.const (.int .i64 n8))) none none) fun v9 _ => cl 80 [v9] H fun v10 H11 => pLive v10 fun v12 => (ap B H11 (oX 0 (some .str) v12) fun v13 _ => (ap B H11 (oX 1 (some (.int .i64)) v12) fun v14 _ => (ap B H11 (oX 2 (some .bool) v12) fun v15 _ => J99_2 B cl n x0 v13 v14 v15 H11 Q))))))))) : J99_3 B cl n x0 H Q := kp (by simp only [ap,aop_w]; kernel_rfl) h
theorem J99_2_in {x0 x3 x4 x5 : AV} (h :
 (ap B H (oN x0) fun v16 _ => (ap B H (oF 1 v16) fun v17 _ => ob (peek B H v17) fun c18 => pInt .i64 c18 fun n19 => pInt .i64 x4 fun n20 => (ap B H (oN x0) fun v21 _ => (ap B H (oF 1 v21) fun v22 _ => (ap B H (oS 1 v22 (.int .i64 (IntKind.i64.wrap (n19 + n20)))) fun v23 H24 => J99_1 B cl n x0 x3 x5 H24 Q)))))) : J99_2 B cl n x0 x3 x4 x5 H Q := kp (by simp only [ap,aop_w]; kernel_rfl) h
theorem J99_1_in {x0 x3 x5 : AV} (h :
 (ap B H (oN x0) fun v25 _ => (ap B H (oF 2 v25) fun v26 _ => ob (peek B H v26) fun c27 => pBool c27 fun b28 => bs b28 ((ap B H (oN x0) fun v29 _ => (ap B H (oF 2 v29) fun v30 _ => (ap B H (oS 1 v30 (.bool true)) fun v31 H32 => J99_0 B cl n x3 H32 Q)))) ((ap B H (.not (.const x5)) fun v33 _ => (ap B H (oN x0) fun v34 _ => (ap B H (oF 2 v34) fun v35 _ => (ap B H (oS 1 v35 v33) fun v36 H37 => J99_0 B cl n x3 H37 Q)))))))) : J99_1 B cl n x0 x3 x5 H Q := kp (by simp only [ap,aop_w]; kernel_rfl) h
theorem J99_0_in {x3 : AV} (h :
 tidyK n Q x3 H) : J99_0 B cl n x3 H Q := kp (by kernel_rfl) h
theorem f99_in {x0 : AV} (h : fi B H [x0] fun n cl =>
 J99_3 B cl n x0 H Q) : Cl B 99 [x0] H Q := fin rfl h (by kernel_rfl)
theorem f100_in {x0 : AV} (h : fi B H [x0] fun n cl =>
 (ap B H (.alloc [(.int .i64 0),.nils,.nils]) fun v1 H2 => cl 51 [x0,.int .i64 1099511627776] H2 fun v3 H4 => pInt .i64 v3 fun n5 => cl 50 [x0] H4 fun v6 H7 => pStr v6 fun s8 => (ap B H7 (.toBytes (.const (.str s8))) fun v9 H10 => cl 103 [x0,.int .i64 64,.func (.func 104) [x0] []] H10 fun v11 H12 => pLive v11 fun v13 => ob (layParts [(.int .i64 0),.nils,.nils] [(0,1,.int .i64 n5),(1,1,v9),(2,1,v13)]) fun c14 => (ap B H12 (oS 3 v1 (.agg c14)) fun v15 H16 => ob (peekN B H16 3 v1) fun c17 => tidyK n Q (.agg c17) H16)))) : Cl B 100 [x0] H Q := fin rfl h (by kernel_rfl)
theorem L101_0_in {x0 x2 x7 : AV} {x10 x11 : Int} (hcl : CLe cl cl) (h :
 bs (decide ((x11 : Int) < x10)) ((ap B H (oN x0) fun v4 _ => (ap B H (oF 1 v4) fun v5 _ => ob (peek B H v5) fun c6 => pBool c6 fun b7 => bs b7 (tidyK n Q (.nils) H) (calleeK B E0 H [] (fun g10 z11 => cl g10 z11 H fun v8 H9 => pLive v8 fun v12 => ob (layParts [.nils] [(0,1,v12)]) fun c13 => slK H9 1 1 c13 fun v14 H15 => (ap B H15 (oA 1 24 x7 v14) fun v16 H17 => L101_0 B cl n x0 x2 v16 x10 (IntKind.i64.wrap (x11 + 1)) H17 Q)) (.val (.const x2)))))) (J101_1 B cl n x7 H Q)) : L101_0 B cl n x0 x2 x7 x10 x11 H Q := ALoop.round2 hcl rfl (Eq.mpr (by kernel_rfl) h)
theorem J101_1_in {x7 : AV} (h :
 tidyK n Q x7 H) : J101_1 B cl n x7 H Q := kp (by kernel_rfl) h
theorem f101_in {x0 : AV} {x1 : Int} {x2 : AV} (h : fi B H [x0,.int .i64 x1,x2] fun n cl =>
 cl 51 [x0,.int .i64 x1] H fun v1 H2 => pInt .i64 v1 fun n3 => L101_0 B cl n x0 x2 .nils n3 0 H2 Q) : Cl B 101 [x0,.int .i64 x1,x2] H Q := fin rfl h (by kernel_rfl)
theorem f102_in {x0 : AV} (h : fi B H [x0] fun n cl =>
 ob (peek B H x0) fun c1 => pLive c1 fun v2 => cl 50 [v2] H fun v3 H4 => pStr v3 fun s5 => (ap B H4 (.toBytes (.const (.str s5))) fun v6 H7 => tidyK n Q v6 H7)) : Cl B 102 [x0] H Q := fin rfl h (by kernel_rfl)
theorem L103_0_in {x0 x2 x7 : AV} {x10 x11 : Int} (hcl : CLe cl cl) (h :
 bs (decide ((x11 : Int) < x10)) ((ap B H (oN x0) fun v4 _ => (ap B H (oF 1 v4) fun v5 _ => ob (peek B H v5) fun c6 => pBool c6 fun b7 => bs b7 (tidyK n Q (.nils) H) (calleeK B E0 H [] (fun g10 z11 => cl g10 z11 H fun v8 H9 => pLive v8 fun v12 => ob (layParts z32 [(0,32,v12)]) fun c13 => slK H9 32 1 c13 fun v14 H15 => (ap B H15 (oA 32 32 x7 v14) fun v16 H17 => L103_0 B cl n x0 x2 v16 x10 (IntKind.i64.wrap (x11 + 1)) H17 Q)) (.val (.const x2)))))) (J103_1 B cl n x7 H Q)) : L103_0 B cl n x0 x2 x7 x10 x11 H Q := ALoop.round2 hcl rfl (Eq.mpr (by kernel_rfl) h)
theorem J103_1_in {x7 : AV} (h :
 tidyK n Q x7 H) : J103_1 B cl n x7 H Q := kp (by kernel_rfl) h
theorem f103_in {x0 : AV} {x1 : Int} {x2 : AV} (h : fi B H [x0,.int .i64 x1,x2] fun n cl =>
 cl 51 [x0,.int .i64 x1] H fun v1 H2 => pInt .i64 v1 fun n3 => L103_0 B cl n x0 x2 .nils n3 0 H2 Q) : Cl B 103 [x0,.int .i64 x1,x2] H Q := fin rfl h (by kernel_rfl)
theorem f104_in {x0 : AV} (h : fi B H [x0] fun n cl =>
 (ap B H (.alloc z32) fun v1 H2 => (ap B H2 (.sliceA 32 1 (.const v1) none none) fun v3 _ => (ap B H2 (oN x0) fun v4 _ => (ap B H2 (oF 0 v4) fun v5 _ => ob (peek B H2 v5) fun c6 => pLive c6 fun v7 => (ap B H2 (.copyL 1 (.const v3) (.const v7)) fun v8 H9 => pInt .i64 v8 fun n10 => ibinK .eql .i64 n10 32 fun v11 => cl 79 [x0,v8,v11] H9 fun v12 H13 => tyK .bool v12 fun v14 => ob (peekN B H13 32 v1) fun c15 => (ap B H13 (oS 32 v1 (.agg c15)) fun v16 H17 => ob (peekN B H17 32 v1) fun c18 => tidyK n Q (.agg c18) H17))))))) : Cl B 104 [x0] H Q := fin rfl h (by kernel_rfl)
theorem J105_4_in {x0 x2 : AV} (h :
 (ap B H (.alloc z32) fun v3 H4 => J105_3 B cl n x0 x2 v3 H4 Q)) : J105_4 B cl n x0 x2 H Q := kp (by simp only [ap,aop_w]; kernel_rfl) h
theorem J105_3_in {x0 x2 x3 : AV} (h :
 (ap B H (oN x0) fun v5 _ => (ap B H (oF 1 v5) fun v6 _ => ob (peek B H v6) fun c7 => pBool c7 fun b8 => bs b8 (J105_0 B cl n x0 x2 x3 (.bool true) H Q) ((ap B H (oN x0) fun v9 _ => (ap B H (oF 0 v9) fun v10 _ => ob (peek B H v10) fun c11 => pStr c11 fun s12 => ibinK .lss .i64 (((List.length s12 : Nat) : Int)) 32 fun v13 => J105_0 B cl n x0 x2 x3 v13 H Q)))))) : J105_3 B cl n x0 x2 x3 H Q := kp (by simp only [ap,aop_w]; kernel_rfl) h
theorem J105_0_in {x0 x2 x3 x15 : AV} (h :
 pBool x15 fun b14 => (if b14 = true then (ap B H (oN x0) fun v15 _ => (ap B H (oF 1 v15) fun v16 _ => (ap B H (oS 1 v16 (.bool true)) fun v17 H18 => ob (peekN B H18 32 x3) fun c19 => (ap B H18 (oS 32 x2 (.agg c19)) fun v20 H21 => ob (peekN B H21 32 x2) fun c22 => tidyK n Q (.agg c22) H21)))) else J105_2 B cl n x0 x2 x3 H Q)) : J105_0 B cl n x0 x2 x3 x15 H Q := kp (by simp only [ap,aop_w]; kernel_rfl) h
theorem J105_2_in {x0 x2 x3 : AV} (h :
 (ap B H (.sliceA 32 1 (.const x3) none none) fun v23 _ => (ap B H (oN x0) fun v24 _ => (ap B H (oF 0 v24) fun v25 _ => ob (peek B H v25) fun c26 => pStr c26 fun s27 => (ap B H (.sliceS (.const (.str s27)) none (some (.const (.int .i64 32)))) fun v28 _ => (ap B H (.copyL 1 (.const v23) (.const v28)) fun v29 H30 => J105_1 B cl n x0 x2 x3 H30 Q)))))) : J105_2 B cl n x0 x2 x3 H Q := kp (by simp only [ap,aop_w]; kernel_rfl) h
theorem J105_1_in {x0 x2 x3 : AV} (h :
 (ap B H (oN x0) fun v31 _ => (ap B H (oF 0 v31) fun v32 _ => ob (peek B H v32) fun c33 => pStr c33 fun s34 => (ap B H (.sliceS (.const (.str s34)) (some (.const (.int .i64 32))) none) fun v35 _ => (ap B H (oN x0) fun v36 _ => (ap B H (oF 0 v36) fun v37 _ => (ap B H (oS 1 v37 v35) fun v38 H39 => ob (peekN B H39 32 x3) fun c40 => (ap B H39 (oS 32 x2 (.agg c40)) fun v41 H42 => ob (peekN B H42 32 x2) fun c43 => tidyK n Q (.agg c43) H42)))))))) : J105_1 B cl n x0 x2 x3 H Q := kp (by simp only [ap,aop_w]; kernel_rfl) h
theorem f105_in {x0 : AV} (h : fi B H [x0] fun n cl =>
 (ap B H (.alloc z32) fun v1 H2 => J105_4 B cl n x0 v1 H2 Q)) : Cl B 105 [x0] H Q := fin rfl h (by simp only [ap,aop_w]; kernel_rfl)
end Go.Am
