/- What the functions of the seat do,from label to label. -/
import Derived.Test.YtdkgdkifeedcnaaAf
namespace Go.Am
open Go
set_option maxRecDepth 100000
variable (B : Base) (cl : CallK) (n : Nat)
def k21_0 (Q : Po) : KQ := kt B cl n a21 c21_6 Q
def k21_1 (Q : Po) : KQ := (AExit.blockK 0 (k21_0 B cl n Q))
def k21_2 (Q : Po) : KQ := (AExit.thenK (fun e h => awC B cl (ALoop n) (.seq (.ops [⟨(some 64),none,(.op (.ldA 6 (.tmp 5)))⟩,⟨none,none,(.op (.st 6 (.tmp 2) (.tmp 64)))⟩,⟨(some 3),none,(.op (.mov (.const (.int .i64 0))))⟩]) .ret) e h (fnQ B a21 (tidyK n Q))) (fnQ B a21 (tidyK n Q)))
def k22_0 (Q : Po) : KQ := (AExit.thenK (fun e h => awC B cl (ALoop n) (.seq (.ops [⟨(some 40),none,(.op (.ldA 9 (.tmp 7)))⟩,⟨none,none,(.op (.st 9 (.tmp 4) (.tmp 40)))⟩,⟨(some 5),none,(.op (.mov (.const (.int .i64 0))))⟩]) .ret) e h (fnQ B a22 (tidyK n Q))) (fnQ B a22 (tidyK n Q)))
def k23_0 (Q : Po) : KQ := (AExit.thenK (fun e h => awC B cl (ALoop n) (.seq (.ops [⟨(some 158),none,(.op (.ldA 9 (.tmp 7)))⟩,⟨none,none,(.op (.st 9 (.tmp 4) (.tmp 158)))⟩,⟨(some 5),none,(.op (.mov (.const (.int .i64 0))))⟩]) .ret) e h (fnQ B a23 (tidyK n Q))) (fnQ B a23 (tidyK n Q)))
def k23_1 (Q : Po) : KQ := kt B cl n a23 c23_20 Q
def k23_2 (Q : Po) : KQ := (AExit.blockK 0 (k23_1 B cl n Q))
def k23_3 (Q : Po) : KQ := (AExit.blockK 1 (k23_2 B cl n Q))
def k23_4 (Q : Po) : KQ := (AExit.blockK 3 (k23_2 B cl n Q))
def k23_5 (Q : Po) : KQ := (AExit.blockK 5 (k23_2 B cl n Q))
def k23_6 (Q : Po) : KQ := (AExit.thenK (fun e h => awC B cl (ALoop n) c23_3 e h (k23_3 B cl n Q)) (k23_3 B cl n Q))
def k23_7 (Q : Po) : KQ := (AExit.thenK (fun e h => awC B cl (ALoop n) c23_1 e h (k23_6 B cl n Q)) (k23_6 B cl n Q))
def k23_8 (Q : Po) : KQ := (AExit.blockK 2 (k23_7 B cl n Q))
def k23_9 (Q : Po) : KQ := (AExit.thenK (fun e h => awC B cl (ALoop n) c23_7 e h (k23_4 B cl n Q)) (k23_4 B cl n Q))
def k23_10 (Q : Po) : KQ := (AExit.thenK (fun e h => awC B cl (ALoop n) c23_5 e h (k23_9 B cl n Q)) (k23_9 B cl n Q))
def k23_11 (Q : Po) : KQ := (AExit.blockK 4 (k23_10 B cl n Q))
def k23_12 (Q : Po) : KQ := (AExit.thenK (fun e h => awC B cl (ALoop n) c23_10 e h (k23_5 B cl n Q)) (k23_5 B cl n Q))
def k26_0 (B : Base) (cl : CallK) (n : Nat) (Q : AV → Heap → Prop) : KQ := (AExit.blockK 0 (fnQ B a26 (tidyK n Q)))
def k31_0 (Q : Po) : KQ := kt B cl n a31 c31_5 Q
def k31_1 (Q : Po) : KQ := (AExit.blockK 0 (k31_0 B cl n Q))
def k31_2 (Q : Po) : KQ := (AExit.thenK (fun e h => awC B cl (ALoop n) c31_4 e h (k31_1 B cl n Q)) (k31_1 B cl n Q))
def k31_3 (Q : Po) : KQ := (AExit.thenK (fun e h => awC B cl (ALoop n) c31_2 e h (k31_2 B cl n Q)) (k31_2 B cl n Q))
def k31_4 (Q : Po) : KQ := (AExit.blockK 1 (k31_3 B cl n Q))
def k35_0 (Q : Po) : KQ := kt B cl n a35 c35_1 Q
def k35_1 (Q : Po) : KQ := (AExit.blockK 0 (k35_0 B cl n Q))
def J21_10 (x0 : List UInt8) (x2 : AV) (H : Heap) (Q : Po) := jn B cl n a21 c21_10 (ev 65 [(0,.str x0),(2,x2)]) H Q
def J21_9 (x0 : List UInt8) (x2 : AV) (H : Heap) (Q : Po) := jn B cl n a21 c21_9 (ev 65 [(0,.str x0),(2,x2)]) H Q
def J21_8 (x0 : List UInt8) (x2 x4 : AV) (H : Heap) (Q : Po) := jn B cl n a21 c21_8 (ev 65 [(0,.str x0),(2,x2),(4,x4)]) H Q
def J21_7 (x0 : List UInt8) (x2 x4 x5 : AV) (H : Heap) (Q : Po) := jn B cl n a21 c21_7 (ev 65 [(0,.str x0),(2,x2),(4,x4),(5,x5)]) H Q
def J21_3 (x0 : List UInt8) (x2 x4 x5 : AV) (x20 : Int) (H : Heap) (Q : Po) := jw B cl n c21_3 (ev 65 [(0,.str x0),(2,x2),(4,x4),(5,x5),(20,.int .i64 x20)]) H (k21_0 B cl n Q)
def J21_2 (x0 : List UInt8) (x2 x4 x5 : AV) (x20 : Int) (x21 : AV) (H : Heap) (Q : Po) := jw B cl n c21_2 (ev 65 [(0,.str x0),(2,x2),(4,x4),(5,x5),(20,.int .i64 x20),(21,x21)]) H (k21_1 B cl n Q)
def J21_6 (x0 : List UInt8) (x2 x4 x5 : AV) (H : Heap) (Q : Po) := jn B cl n a21 c21_6 (ev 65 [(0,.str x0),(2,x2),(4,x4),(5,x5)]) H Q
def J21_1 (x0 : List UInt8) (x2 x4 x5 : AV) (x20 : Int) (x26 : AV) (H : Heap) (Q : Po) := jw B cl n c21_1 (ev 65 [(0,.str x0),(2,x2),(4,x4),(5,x5),(20,.int .i64 x20),(26,x26)]) H (k21_1 B cl n Q)
def J21_5 (x0 : List UInt8) (x2 x4 x5 x6 x7 : AV) (H : Heap) (Q : Po) := jn B cl n a21 c21_5 (ev 65 [(0,.str x0),(2,x2),(4,x4),(5,x5),(6,x6),(7,x7)]) H Q
def J21_0 (x0 : List UInt8) (x2 x4 x5 x39 : AV) (H : Heap) (Q : Po) := jw B cl n c21_0 (ev 65 [(0,.str x0),(2,x2),(4,x4),(5,x5),(39,x39)]) H (k21_1 B cl n Q)
def J21_4 (x2 x5 x62 : AV) (H : Heap) (Q : Po) := jw B cl n c21_4 (ev 65 [(2,x2),(5,x5),(62,x62)]) H (k21_2 B cl n Q)
def J22_5 (x0 : Int) (x1 x4 : AV) (H : Heap) (Q : Po) := jn B cl n a22 c22_5 (ev 41 [(0,.int .i64 x0),(1,x1),(4,x4)]) H Q
def J22_4 (x0 : Int) (x1 x4 x6 : AV) (H : Heap) (Q : Po) := jn B cl n a22 c22_4 (ev 41 [(0,.int .i64 x0),(1,x1),(4,x4),(6,x6)]) H Q
def J22_3 (x0 : Int) (x1 x4 x6 x7 : AV) (H : Heap) (Q : Po) := jn B cl n a22 c22_3 (ev 41 [(0,.int .i64 x0),(1,x1),(4,x4),(6,x6),(7,x7)]) H Q
def J22_2 (x0 : Int) (x1 x4 x6 x7 : AV) (H : Heap) (Q : Po) := jn B cl n a22 c22_2 (ev 41 [(0,.int .i64 x0),(1,x1),(4,x4),(6,x6),(7,x7)]) H Q
def J22_1 (x1 x4 x6 x7 x8 x9 : AV) (H : Heap) (Q : Po) := jw B cl n c22_1 (ev 41 [(1,x1),(4,x4),(6,x6),(7,x7),(8,x8),(9,x9)]) H (k22_0 B cl n Q)
def J22_0 (x4 x7 x38 : AV) (H : Heap) (Q : Po) := jw B cl n c22_0 (ev 41 [(4,x4),(7,x7),(38,x38)]) H (k22_0 B cl n Q)
def J23_23 (x0 : Int) (x1 : List UInt8) (x4 : AV) (H : Heap) (Q : Po) := jn B cl n a23 c23_23 (ev 159 [(0,.int .i64 x0),(1,.str x1),(4,x4)]) H Q
def J23_22 (x0 : Int) (x1 : List UInt8) (x4 x6 : AV) (H : Heap) (Q : Po) := jn B cl n a23 c23_22 (ev 159 [(0,.int .i64 x0),(1,.str x1),(4,x4),(6,x6)]) H Q
def J23_21 (x0 : Int) (x1 : List UInt8) (x4 x6 x7 : AV) (H : Heap) (Q : Po) := jn B cl n a23 c23_21 (ev 159 [(0,.int .i64 x0),(1,.str x1),(4,x4),(6,x6),(7,x7)]) H Q
def J23_17 (x0 : Int) (x1 : List UInt8) (x4 x6 x7 x27 : AV) (H : Heap) (Q : Po) := jw B cl n c23_17 (ev 159 [(0,.int .i64 x0),(1,.str x1),(4,x4),(6,x6),(7,x7),(27,x27)]) H (k23_1 B cl n Q)
def J23_16 (x0 : Int) (x1 : List UInt8) (x4 x6 x7 : AV) (x28 : Int) (H : Heap) (Q : Po) := jw B cl n c23_16 (ev 159 [(0,.int .i64 x0),(1,.str x1),(4,x4),(6,x6),(7,x7),(28,.int .i64 x28)]) H (k23_1 B cl n Q)
def J23_20 (x0 : Int) (x1 : List UInt8) (x4 x6 x7 : AV) (H : Heap) (Q : Po) := jn B cl n a23 c23_20 (ev 159 [(0,.int .i64 x0),(1,.str x1),(4,x4),(6,x6),(7,x7)]) H Q
def J23_15 (x0 : Int) (x1 : List UInt8) (x4 x6 x7 : AV) (x28 : Int) (x29 : AV) (H : Heap) (Q : Po) := jw B cl n c23_15 (ev 159 [(0,.int .i64 x0),(1,.str x1),(4,x4),(6,x6),(7,x7),(28,.int .i64 x28),(29,x29)]) H (k23_2 B cl n Q)
def J23_19 (x1 : List UInt8) (x4 x6 x7 x17 x18 : AV) (H : Heap) (Q : Po) := jn B cl n a23 c23_19 (ev 159 [(1,.str x1),(4,x4),(6,x6),(7,x7),(17,x17),(18,x18)]) H Q
def J23_14 (x0 : Int) (x1 : List UInt8) (x4 x6 x7 : AV) (x28 : Int) (x34 : AV) (H : Heap) (Q : Po) := jw B cl n c23_14 (ev 159 [(0,.int .i64 x0),(1,.str x1),(4,x4),(6,x6),(7,x7),(28,.int .i64 x28),(34,x34)]) H (k23_2 B cl n Q)
def J23_18 (x4 x7 x156 : AV) (H : Heap) (Q : Po) := jw B cl n c23_18 (ev 159 [(4,x4),(7,x7),(156,x156)]) H (k23_0 B cl n Q)
def L23_3 (x0 : Int) (x1 : List UInt8) (x4 x6 x7 : AV) (x8 x9 : Int) (H : Heap) (Q : Po) := jw B cl n c23_3 (ev 159 [(0,.int .i64 x0),(1,.str x1),(4,x4),(6,x6),(7,x7),(8,.int .i64 x8),(9,.int .i64 x9)]) H (k23_3 B cl n Q)
def J23_13 (x0 : Int) (x1 : List UInt8) (x4 x6 x7 : AV) (x28 : Int) (x65 : AV) (H : Heap) (Q : Po) := jw B cl n c23_13 (ev 159 [(0,.int .i64 x0),(1,.str x1),(4,x4),(6,x6),(7,x7),(28,.int .i64 x28),(65,x65)]) H (k23_2 B cl n Q)
def J23_2 (x0 : Int) (x1 : List UInt8) (x4 x6 x7 : AV) (x8 x9 : Int) (H : Heap) (Q : Po) := jw B cl n c23_2 (ev 159 [(0,.int .i64 x0),(1,.str x1),(4,x4),(6,x6),(7,x7),(8,.int .i64 x8),(9,.int .i64 x9)]) H (k23_6 B cl n Q)
def L23_7 (x0 : Int) (x1 : List UInt8) (x4 x6 x7 : AV) (x11 x12 : Int) (H : Heap) (Q : Po) := jw B cl n c23_7 (ev 159 [(0,.int .i64 x0),(1,.str x1),(4,x4),(6,x6),(7,x7),(11,.int .i64 x11),(12,.int .i64 x12)]) H (k23_4 B cl n Q)
def J23_12 (x0 : Int) (x1 : List UInt8) (x4 x6 x7 : AV) (x28 : Int) (x96 : AV) (H : Heap) (Q : Po) := jw B cl n c23_12 (ev 159 [(0,.int .i64 x0),(1,.str x1),(4,x4),(6,x6),(7,x7),(28,.int .i64 x28),(96,x96)]) H (k23_2 B cl n Q)
def J23_0 (x0 : Int) (x1 : List UInt8) (x4 x6 x7 : AV) (x8 x9 : Int) (x10 : AV) (H : Heap) (Q : Po) := jw B cl n c23_0 (ev 159 [(0,.int .i64 x0),(1,.str x1),(4,x4),(6,x6),(7,x7),(8,.int .i64 x8),(9,.int .i64 x9),(10,x10)]) H (k23_8 B cl n Q)
def J23_6 (x0 : Int) (x1 : List UInt8) (x4 x6 x7 : AV) (x11 x12 : Int) (H : Heap) (Q : Po) := jw B cl n c23_6 (ev 159 [(0,.int .i64 x0),(1,.str x1),(4,x4),(6,x6),(7,x7),(11,.int .i64 x11),(12,.int .i64 x12)]) H (k23_9 B cl n Q)
def J23_11 (x0 : Int) (x1 : List UInt8) (x4 x6 x7 : AV) (H : Heap) (Q : Po) := jw B cl n c23_11 (ev 159 [(0,.int .i64 x0),(1,.str x1),(4,x4),(6,x6),(7,x7)]) H (k23_2 B cl n Q)
def J23_1 (x0 : Int) (x1 : List UInt8) (x4 x6 x7 : AV) (x8 x9 : Int) (H : Heap) (Q : Po) := jw B cl n c23_1 (ev 159 [(0,.int .i64 x0),(1,.str x1),(4,x4),(6,x6),(7,x7),(8,.int .i64 x8),(9,.int .i64 x9)]) H (k23_6 B cl n Q)
def J23_4 (x0 : Int) (x1 : List UInt8) (x4 x6 x7 : AV) (x11 x12 : Int) (x13 : AV) (H : Heap) (Q : Po) := jw B cl n c23_4 (ev 159 [(0,.int .i64 x0),(1,.str x1),(4,x4),(6,x6),(7,x7),(11,.int .i64 x11),(12,.int .i64 x12),(13,x13)]) H (k23_11 B cl n Q)
def L23_10 (x0 : Int) (x1 : List UInt8) (x4 x6 x7 : AV) (x14 x15 : Int) (H : Heap) (Q : Po) := jw B cl n c23_10 (ev 159 [(0,.int .i64 x0),(1,.str x1),(4,x4),(6,x6),(7,x7),(14,.int .i64 x14),(15,.int .i64 x15)]) H (k23_5 B cl n Q)
def J23_5 (x0 : Int) (x1 : List UInt8) (x4 x6 x7 : AV) (x11 x12 : Int) (H : Heap) (Q : Po) := jw B cl n c23_5 (ev 159 [(0,.int .i64 x0),(1,.str x1),(4,x4),(6,x6),(7,x7),(11,.int .i64 x11),(12,.int .i64 x12)]) H (k23_9 B cl n Q)
def J23_9 (x0 : Int) (x1 : List UInt8) (x4 x6 x7 : AV) (x14 x15 : Int) (H : Heap) (Q : Po) := jw B cl n c23_9 (ev 159 [(0,.int .i64 x0),(1,.str x1),(4,x4),(6,x6),(7,x7),(14,.int .i64 x14),(15,.int .i64 x15)]) H (k23_12 B cl n Q)
def J23_8 (x0 : Int) (x1 : List UInt8) (x4 x6 x7 : AV) (x14 x15 : Int) (H : Heap) (Q : Po) := jw B cl n c23_8 (ev 159 [(0,.int .i64 x0),(1,.str x1),(4,x4),(6,x6),(7,x7),(14,.int .i64 x14),(15,.int .i64 x15)]) H (k23_12 B cl n Q)
def L26_0 (x3 x20 : AV) (x21 x22 : Int) (H : Heap) (Q : Po) := jw B cl n c26_0 (ev 30 [(3,x3),(20,x20),(21,.int .i64 x21),(22,.int .i64 x22)]) H (k26_0 B cl n Q)
def J31_6 (x0 : List UInt8) (x1 : AV) (H : Heap) (Q : Po) := jn B cl n a31 c31_6 (ev 34 [(0,.str x0),(1,x1)]) H Q
def L31_4 (x0 x1 : AV) (x6 : Int) (H : Heap) (Q : Po) := jw B cl n c31_4 (ev 34 [(0,x0),(1,x1),(6,.int .i64 x6)]) H (k31_1 B cl n Q)
def J31_3 (x0 x1 : AV) (x6 : Int) (H : Heap) (Q : Po) := jw B cl n c31_3 (ev 34 [(0,x0),(1,x1),(6,.int .i64 x6)]) H (k31_2 B cl n Q)
def J31_5 (x0 : AV) (H : Heap) (Q : Po) := jn B cl n a31 c31_5 (ev 34 [(0,x0)]) H Q
def J31_1 (x0 x1 : AV) (x6 : Int) (x7 : AV) (H : Heap) (Q : Po) := jw B cl n c31_1 (ev 34 [(0,x0),(1,x1),(6,.int .i64 x6),(7,x7)]) H (k31_4 B cl n Q)
def J31_0 (x0 x1 : AV) (x6 : Int) (H : Heap) (Q : Po) := jw B cl n c31_0 (ev 34 [(0,x0),(1,x1),(6,.int .i64 x6)]) H (k31_4 B cl n Q)
def J31_2 (x0 x1 : AV) (x6 : Int) (H : Heap) (Q : Po) := jw B cl n c31_2 (ev 34 [(0,x0),(1,x1),(6,.int .i64 x6)]) H (k31_2 B cl n Q)
def L35_0 (x0 x1 : AV) (x5 : Int) (H : Heap) (Q : Po) := jw B cl n c35_0 (ev 26 [(0,x0),(1,x1),(5,.int .i64 x5)]) H (k35_1 B cl n Q)
def J35_1 (H : Heap) (Q : Po) := jn B cl n a35 c35_1 (ev 26 []) H Q
variable {B cl n} {H : Heap} {Q : Po}
theorem J21_10_in {x0 : List UInt8} {x2 : AV} (h :
 pStr ((.str [])) fun s3 => bs (x0 == s3) (ob (layParts [(.int .i64 0),.nils,(.str []),(.str []),(.str []),(.int .i64 0)] []) fun c4 => (ap B H (oS 6 x2 (.agg c4)) fun v5 H6 => ob (peekN B H6 6 x2) fun c7 => tidyK n Q (.tuple [.agg c7,.int .i64 2]) H6)) (J21_9 B cl n x0 x2 H Q)) : J21_10 B cl n x0 x2 H Q := kp (by kernel_rfl) h
theorem J21_9_in {x0 : List UInt8} {x2 : AV} (h :
 (ap B H (.sliceS (.const (.str x0)) (some (.const (.int .i64 1))) none) fun v8 _ => ob (layParts [(.str []),(.bool false)] [(0,1,v8)]) fun c9 => (ap B H (.box 2 (.const (.agg c9))) fun v10 H11 => J21_8 B cl n x0 x2 v10 H11 Q))) : J21_9 B cl n x0 x2 H Q := kp (by kernel_rfl) h
theorem J21_8_in {x0 : List UInt8} {x2 x4 : AV} (h :
 (ap B H (.indexS (.const (.str x0)) (.const (.int .i64 0))) fun v12 _ => pInt .u8 v12 fun n13 => ob (layParts [(.int .i64 0),.nils,(.str []),(.str []),(.str []),(.int .i64 0)] [(0,1,.int .i64 (IntKind.i64.wrap n13))]) fun c14 => (ap B H (.alloc [(.int .i64 0),.nils,(.str []),(.str []),(.str []),(.int .i64 0)]) fun v15 H16 => (ap B H16 (oS 6 v15 (.agg c14)) fun v17 H18 => J21_7 B cl n x0 x2 x4 v15 H18 Q)))) : J21_8 B cl n x0 x2 x4 H Q := kp (by kernel_rfl) h
theorem J21_7_in {x0 : List UInt8} {x2 x4 x5 : AV} (h :
 (ap B H (oF 0 x5) fun v19 _ => ob (peek B H v19) fun c20 => pInt .i64 c20 fun n21 => J21_3 B cl n x0 x2 x4 x5 n21 H Q)) : J21_7 B cl n x0 x2 x4 x5 H Q := kp (by kernel_rfl) h
theorem J21_3_in {x0 : List UInt8} {x2 x4 x5 : AV} {x20 : Int} (h :
 ibinK .eql .i64 x20 1 fun v22 => J21_2 B cl n x0 x2 x4 x5 x20 v22 H Q) : J21_3 B cl n x0 x2 x4 x5 x20 H Q := kp (by kernel_rfl) h
theorem J21_2_in {x0 : List UInt8} {x2 x4 x5 : AV} {x20 : Int} {x21 : AV} (h :
 pBool x21 fun b23 => (if b23 = true then cl 53 [x4,.int .i64 32] H fun v24 H25 => pLive v24 fun v26 => (ap B H25 (oF 1 x5) fun v27 _ => (ap B H25 (oS 1 v27 v26) fun v28 H29 => J21_6 B cl n x0 x2 x4 x5 H29 Q)) else ibinK .eql .i64 x20 2 fun v30 => J21_1 B cl n x0 x2 x4 x5 x20 v30 H Q)) : J21_2 B cl n x0 x2 x4 x5 x20 x21 H Q := kp (by kernel_rfl) h
theorem J21_6_in {x0 : List UInt8} {x2 x4 x5 : AV} (h :
 ob (peekN B H 6 x5) fun c31 => cl 14 [.agg c31] H fun v32 H33 => pLive v32 fun v34 => (ap B H33 (oX 0 (some .str) v34) fun v35 _ => (ap B H33 (oX 1 (some (.int .i64)) v34) fun v36 _ => J21_5 B cl n x0 x2 x4 x5 v35 v36 H33 Q))) : J21_6 B cl n x0 x2 x4 x5 H Q := kp (by kernel_rfl) h
theorem J21_1_in {x0 : List UInt8} {x2 x4 x5 : AV} {x20 : Int} {x26 : AV} (h :
 pBool x26 fun b37 => (if b37 = true then cl 54 [x4] H fun v38 H39 => pStr v38 fun s40 => (ap B H39 (oF 2 x5) fun v41 _ => (ap B H39 (oS 1 v41 (.str s40)) fun v42 H43 => J21_6 B cl n x0 x2 x4 x5 H43 Q)) else bs ((x20 : Int) == 3) (cl 54 [x4] H fun v44 H45 => pStr v44 fun s46 => (ap B H45 (oF 3 x5) fun v47 _ => (ap B H45 (oS 1 v47 (.str s46)) fun v48 H49 => cl 54 [x4] H49 fun v50 H51 => pStr v50 fun s52 => (ap B H51 (oF 4 x5) fun v53 _ => (ap B H51 (oS 1 v53 (.str s52)) fun v54 H55 => J21_6 B cl n x0 x2 x4 x5 H55 Q))))) (bs ((x20 : Int) == 4) (J21_0 B cl n x0 x2 x4 x5 (.bool true) H Q) (ibinK .eql .i64 x20 5 fun v56 => J21_0 B cl n x0 x2 x4 x5 v56 H Q)))) : J21_1 B cl n x0 x2 x4 x5 x20 x26 H Q := kp (by kernel_rfl) h
theorem J21_5_in {x0 : List UInt8} {x2 x4 x5 x6 x7 : AV} (h :
 (ap B H (oN x4) fun v57 _ => (ap B H (oF 1 v57) fun v58 _ => ob (peek B H v58) fun c59 => pBool c59 fun b60 => bs b60 (J21_4 B cl n x2 x5 (.bool true) H Q) (pInt .i64 x7 fun n61 => bs ((n61 : Int) != 0) (J21_4 B cl n x2 x5 (.bool true) H Q) (pStr x6 fun s62 => sbinK .neq s62 x0 fun v63 => J21_4 B cl n x2 x5 v63 H Q))))) : J21_5 B cl n x0 x2 x4 x5 x6 x7 H Q := kp (by kernel_rfl) h
theorem J21_0_in {x0 : List UInt8} {x2 x4 x5 x39 : AV} (h :
 pBool x39 fun b64 => (if b64 = true then cl 55 [x4,.int .i64 1099511627776] H fun v65 H66 => pInt .i64 v65 fun n67 => (ap B H66 (oF 5 x5) fun v68 _ => (ap B H66 (oS 1 v68 (.int .i64 n67)) fun v69 H70 => J21_6 B cl n x0 x2 x4 x5 H70 Q)) else J21_6 B cl n x0 x2 x4 x5 H Q)) : J21_0 B cl n x0 x2 x4 x5 x39 H Q := kp (by kernel_rfl) h
theorem J21_4_in {x2 x5 x62 : AV} (h :
 pBool x62 fun b71 => (if b71 = true then ob (layParts [(.int .i64 0),.nils,(.str []),(.str []),(.str []),(.int .i64 0)] []) fun c72 => (ap B H (oS 6 x2 (.agg c72)) fun v73 H74 => ob (peekN B H74 6 x2) fun c75 => tidyK n Q (.tuple [.agg c75,.int .i64 2]) H74) else ob (peekN B H 6 x5) fun c76 => (ap B H (oS 6 x2 (.agg c76)) fun v77 H78 => ob (peekN B H78 6 x2) fun c79 => tidyK n Q (.tuple [.agg c79,.int .i64 0]) H78))) : J21_4 B cl n x2 x5 x62 H Q := kp (by kernel_rfl) h
theorem f21_in {x0 : List UInt8} (h : fi B H [.str x0] fun n cl =>
 (ap B H (.alloc [(.int .i64 0),.nils,(.str []),(.str []),(.str []),(.int .i64 0)]) fun v1 H2 => J21_10 B cl n x0 v1 H2 Q)) : Cl B 21 [.str x0] H Q := fin rfl h (by kernel_rfl)
theorem J22_5_in {x0 : Int} {x1 x4 : AV} (h :
 ob (layParts [.nils,(.bool false)] [(0,1,x1)]) fun c3 => (ap B H (.box 2 (.const (.agg c3))) fun v4 H5 => J22_4 B cl n x0 x1 x4 v4 H5 Q)) : J22_5 B cl n x0 x1 x4 H Q := kp (by kernel_rfl) h
theorem J22_4_in {x0 : Int} {x1 x4 x6 : AV} (h :
 cl 51 [x6,.int .i64 10] H fun v6 H7 => pInt .i64 v6 fun n8 => ob (layParts [(.int .i64 0),(.int .i64 0),(.int .i64 0),.nils,.nils,.nils,.nils,.nils,.nils] [(0,1,.int .i64 n8)]) fun c9 => (ap B H7 (.alloc [(.int .i64 0),(.int .i64 0),(.int .i64 0),.nils,.nils,.nils,.nils,.nils,.nils]) fun v10 H11 => (ap B H11 (oS 9 v10 (.agg c9)) fun v12 H13 => J22_3 B cl n x0 x1 x4 x6 v10 H13 Q))) : J22_4 B cl n x0 x1 x4 x6 H Q := kp (by kernel_rfl) h
theorem J22_3_in {x0 : Int} {x1 x4 x6 x7 : AV} (h :
 (ap B H (oF 0 x7) fun v14 _ => ob (peek B H v14) fun c15 => pInt .i64 c15 fun n16 => bs ((n16 : Int) == 0) (cl 56 [x6,.int .i64 x0,x7] H fun v17 H18 => pLive v17 fun v19 => J22_2 B cl n x0 x1 x4 x6 x7 H18 Q) (J22_2 B cl n x0 x1 x4 x6 x7 H Q))) : J22_3 B cl n x0 x1 x4 x6 x7 H Q := kp (by kernel_rfl) h
theorem J22_2_in {x0 : Int} {x1 x4 x6 x7 : AV} (h :
 ob (peekN B H 9 x7) fun c20 => cl 17 [.int .i64 x0,.agg c20] H fun v21 H22 => pLive v21 fun v23 => (ap B H22 (oX 0 (some .other) v23) fun v24 _ => (ap B H22 (oX 1 (some (.int .i64)) v23) fun v25 _ => J22_1 B cl n x1 x4 x6 x7 v24 v25 H22 Q))) : J22_2 B cl n x0 x1 x4 x6 x7 H Q := kp (by kernel_rfl) h
theorem J22_1_in {x1 x4 x6 x7 x8 x9 : AV} (h :
 (ap B H (oN x6) fun v26 _ => (ap B H (oF 1 v26) fun v27 _ => ob (peek B H v27) fun c28 => pBool c28 fun b29 => bs b29 (J22_0 B cl n x4 x7 (.bool true) H Q) (cl 52 [x8,x9,x1] H fun v30 H31 => tyK .bool v30 fun v32 => (ap B H31 (.not (.const v32)) fun v33 _ => J22_0 B cl n x4 x7 v33 H31 Q))))) : J22_1 B cl n x1 x4 x6 x7 x8 x9 H Q := kp (by kernel_rfl) h
theorem J22_0_in {x4 x7 x38 : AV} (h :
 pBool x38 fun b34 => (if b34 = true then ob (layParts [(.int .i64 0),(.int .i64 0),(.int .i64 0),.nils,.nils,.nils,.nils,.nils,.nils] []) fun c35 => (ap B H (oS 9 x4 (.agg c35)) fun v36 H37 => ob (peekN B H37 9 x4) fun c38 => tidyK n Q (.tuple [.agg c38,.int .i64 2]) H37) else ob (peekN B H 9 x7) fun c39 => (ap B H (oS 9 x4 (.agg c39)) fun v40 H41 => ob (peekN B H41 9 x4) fun c42 => tidyK n Q (.tuple [.agg c42,.int .i64 0]) H41))) : J22_0 B cl n x4 x7 x38 H Q := kp (by kernel_rfl) h
theorem f22_in {x0 : Int} {x1 : AV} (h : fi B H [.int .i64 x0,x1] fun n cl =>
 (ap B H (.alloc [(.int .i64 0),(.int .i64 0),(.int .i64 0),.nils,.nils,.nils,.nils,.nils,.nils]) fun v1 H2 => J22_5 B cl n x0 x1 v1 H2 Q)) : Cl B 22 [.int .i64 x0,x1] H Q := fin rfl h (by kernel_rfl)
theorem J23_23_in {x0 : Int} {x1 : List UInt8} {x4 : AV} (h :
 ob (layParts [(.str []),(.bool false)] [(0,1,.str x1)]) fun c3 => (ap B H (.box 2 (.const (.agg c3))) fun v4 H5 => J23_22 B cl n x0 x1 x4 v4 H5 Q)) : J23_23 B cl n x0 x1 x4 H Q := kp (by kernel_rfl) h
theorem J23_22_in {x0 : Int} {x1 : List UInt8} {x4 x6 : AV} (h :
 cl 55 [x6,.int .i64 10] H fun v6 H7 => pInt .i64 v6 fun n8 => ob (layParts [(.int .i64 0),(.int .i64 0),(.int .i64 0),.nils,.nils,.nils,.nils,.nils,.nils] [(0,1,.int .i64 n8)]) fun c9 => (ap B H7 (.alloc [(.int .i64 0),(.int .i64 0),(.int .i64 0),.nils,.nils,.nils,.nils,.nils,.nils]) fun v10 H11 => (ap B H11 (oS 9 v10 (.agg c9)) fun v12 H13 => J23_21 B cl n x0 x1 x4 x6 v10 H13 Q))) : J23_22 B cl n x0 x1 x4 x6 H Q := kp (by kernel_rfl) h
theorem J23_21_in {x0 : Int} {x1 : List UInt8} {x4 x6 x7 : AV} (h :
 (ap B H (oF 0 x7) fun v14 _ => ob (peek B H v14) fun c15 => pInt .i64 c15 fun n16 => ibinK .eql .i64 n16 0 fun v17 => J23_17 B cl n x0 x1 x4 x6 x7 v17 H Q)) : J23_21 B cl n x0 x1 x4 x6 x7 H Q := kp (by kernel_rfl) h
theorem J23_17_in {x0 : Int} {x1 : List UInt8} {x4 x6 x7 x27 : AV} (h :
 pBool x27 fun b18 => (if b18 = true then J23_16 B cl n x0 x1 x4 x6 x7 x0 H Q else J23_20 B cl n x0 x1 x4 x6 x7 H Q)) : J23_17 B cl n x0 x1 x4 x6 x7 x27 H Q := kp (by kernel_rfl) h
theorem J23_16_in {x0 : Int} {x1 : List UInt8} {x4 x6 x7 : AV} {x28 : Int} (h :
 ibinK .eql .i64 x28 1 fun v19 => J23_15 B cl n x0 x1 x4 x6 x7 x28 v19 H Q) : J23_16 B cl n x0 x1 x4 x6 x7 x28 H Q := kp (by kernel_rfl) h
theorem J23_20_in {x0 : Int} {x1 : List UInt8} {x4 x6 x7 : AV} (h :
 ob (peekN B H 9 x7) fun c20 => cl 18 [.int .i64 x0,.agg c20] H fun v21 H22 => pLive v21 fun v23 => (ap B H22 (oX 0 (some .str) v23) fun v24 _ => (ap B H22 (oX 1 (some (.int .i64)) v23) fun v25 _ => J23_19 B cl n x1 x4 x6 x7 v24 v25 H22 Q))) : J23_20 B cl n x0 x1 x4 x6 x7 H Q := kp (by kernel_rfl) h
theorem J23_15_in {x0 : Int} {x1 : List UInt8} {x4 x6 x7 : AV} {x28 : Int} {x29 : AV} (h :
 pBool x29 fun b26 => (if b26 = true then cl 55 [x6,.int .i64 1099511627776] H fun v27 H28 => pInt .i64 v27 fun n29 => (ap B H28 (oF 1 x7) fun v30 _ => (ap B H28 (oS 1 v30 (.int .i64 n29)) fun v31 H32 => J23_20 B cl n x0 x1 x4 x6 x7 H32 Q)) else ibinK .eql .i64 x28 2 fun v33 => J23_14 B cl n x0 x1 x4 x6 x7 x28 v33 H Q)) : J23_15 B cl n x0 x1 x4 x6 x7 x28 x29 H Q := kp (by kernel_rfl) h
theorem J23_19_in {x1 : List UInt8} {x4 x6 x7 x17 x18 : AV} (h :
 (ap B H (oN x6) fun v34 _ => (ap B H (oF 1 v34) fun v35 _ => ob (peek B H v35) fun c36 => pBool c36 fun b37 => bs b37 (J23_18 B cl n x4 x7 (.bool true) H Q) (pInt .i64 x18 fun n38 => bs ((n38 : Int) != 0) (J23_18 B cl n x4 x7 (.bool true) H Q) (pStr x17 fun s39 => sbinK .neq s39 x1 fun v40 => J23_18 B cl n x4 x7 v40 H Q))))) : J23_19 B cl n x1 x4 x6 x7 x17 x18 H Q := kp (by kernel_rfl) h
theorem J23_14_in {x0 : Int} {x1 : List UInt8} {x4 x6 x7 : AV} {x28 : Int} {x34 : AV} (h :
 pBool x34 fun b41 => (if b41 = true then cl 54 [x6] H fun v42 H43 => pStr v42 fun s44 => (ap B H43 (.toBytes (.const (.str s44))) fun v45 H46 => (ap B H46 (oF 3 x7) fun v47 _ => (ap B H46 (oF 0 v47) fun v48 _ => (ap B H46 (oS 1 v48 v45) fun v49 H50 => cl 55 [x6,.int .i64 512] H50 fun v51 H52 => pInt .i64 v51 fun n53 => L23_3 B cl n x0 x1 x4 x6 x7 n53 0 H52 Q)))) else ibinK .eql .i64 x28 3 fun v54 => J23_13 B cl n x0 x1 x4 x6 x7 x28 v54 H Q)) : J23_14 B cl n x0 x1 x4 x6 x7 x28 x34 H Q := kp (by kernel_rfl) h
theorem J23_18_in {x4 x7 x156 : AV} (h :
 pBool x156 fun b55 => (if b55 = true then ob (layParts [(.int .i64 0),(.int .i64 0),(.int .i64 0),.nils,.nils,.nils,.nils,.nils,.nils] []) fun c56 => (ap B H (oS 9 x4 (.agg c56)) fun v57 H58 => ob (peekN B H58 9 x4) fun c59 => tidyK n Q (.tuple [.agg c59,.int .i64 2]) H58) else ob (peekN B H 9 x7) fun c60 => (ap B H (oS 9 x4 (.agg c60)) fun v61 H62 => ob (peekN B H62 9 x4) fun c63 => tidyK n Q (.tuple [.agg c63,.int .i64 0]) H62))) : J23_18 B cl n x4 x7 x156 H Q := kp (by kernel_rfl) h
theorem L23_3_in {x0 : Int} {x1 : List UInt8} {x4 x6 x7 : AV} {x8 x9 : Int} (hcl : CLe cl cl) (h :
 bs (decide ((x9 : Int) < x8)) ((ap B H (oN x6) fun v64 _ => (ap B H (oF 1 v64) fun v65 _ => ob (peek B H v65) fun c66 => pBool c66 fun b67 => bs b67 (J23_20 B cl n x0 x1 x4 x6 x7 H Q) (J23_2 B cl n x0 x1 x4 x6 x7 x8 x9 H Q)))) (J23_20 B cl n x0 x1 x4 x6 x7 H Q)) : L23_3 B cl n x0 x1 x4 x6 x7 x8 x9 H Q := ALoop.round2 hcl rfl (Eq.mpr (by kernel_rfl) h)
theorem J23_13_in {x0 : Int} {x1 : List UInt8} {x4 x6 x7 : AV} {x28 : Int} {x65 : AV} (h :
 pBool x65 fun b68 => (if b68 = true then cl 54 [x6] H fun v69 H70 => pStr v69 fun s71 => (ap B H70 (.toBytes (.const (.str s71))) fun v72 H73 => (ap B H73 (oF 5 x7) fun v74 _ => (ap B H73 (oF 0 v74) fun v75 _ => (ap B H73 (oS 1 v75 v72) fun v76 H77 => cl 55 [x6,.int .i64 512] H77 fun v78 H79 => pInt .i64 v78 fun n80 => L23_7 B cl n x0 x1 x4 x6 x7 n80 0 H79 Q)))) else bs ((x28 : Int) == 4) (J23_12 B cl n x0 x1 x4 x6 x7 x28 (.bool true) H Q) (ibinK .eql .i64 x28 5 fun v81 => J23_12 B cl n x0 x1 x4 x6 x7 x28 v81 H Q))) : J23_13 B cl n x0 x1 x4 x6 x7 x28 x65 H Q := kp (by kernel_rfl) h
theorem J23_2_in {x0 : Int} {x1 : List UInt8} {x4 x6 x7 : AV} {x8 x9 : Int} (h :
 cl 57 [x6] H fun v82 H83 => pLive v82 fun v84 => (ap B H83 (.alloc [(.bool false),(.int .i64 0),.nils,.nils,(.int .i64 0),.nils,.nils]) fun v85 H86 => (ap B H86 (oS 7 v85 v84) fun v87 H88 => J23_0 B cl n x0 x1 x4 x6 x7 x8 x9 v85 H88 Q))) : J23_2 B cl n x0 x1 x4 x6 x7 x8 x9 H Q := kp (by kernel_rfl) h
theorem L23_7_in {x0 : Int} {x1 : List UInt8} {x4 x6 x7 : AV} {x11 x12 : Int} (hcl : CLe cl cl) (h :
 bs (decide ((x12 : Int) < x11)) ((ap B H (oN x6) fun v89 _ => (ap B H (oF 1 v89) fun v90 _ => ob (peek B H v90) fun c91 => pBool c91 fun b92 => bs b92 (J23_20 B cl n x0 x1 x4 x6 x7 H Q) (J23_6 B cl n x0 x1 x4 x6 x7 x11 x12 H Q)))) (J23_20 B cl n x0 x1 x4 x6 x7 H Q)) : L23_7 B cl n x0 x1 x4 x6 x7 x11 x12 H Q := ALoop.round2 hcl rfl (Eq.mpr (by kernel_rfl) h)
theorem J23_12_in {x0 : Int} {x1 : List UInt8} {x4 x6 x7 : AV} {x28 : Int} {x96 : AV} (h :
 pBool x96 fun b93 => (if b93 = true then cl 55 [x6,.int .i64 1099511627776] H fun v94 H95 => pInt .i64 v94 fun n96 => (ap B H95 (oF 2 x7) fun v97 _ => (ap B H95 (oS 1 v97 (.int .i64 n96)) fun v98 H99 => J23_11 B cl n x0 x1 x4 x6 x7 H99 Q)) else bs ((x28 : Int) == 6) (cl 55 [x6,.int .i64 1099511627776] H fun v100 H101 => pInt .i64 v100 fun n102 => (ap B H101 (oF 1 x7) fun v103 _ => (ap B H101 (oS 1 v103 (.int .i64 n102)) fun v104 H105 => cl 55 [x6,.int .i64 1099511627776] H105 fun v106 H107 => pInt .i64 v106 fun n108 => (ap B H107 (oF 2 x7) fun v109 _ => (ap B H107 (oS 1 v109 (.int .i64 n108)) fun v110 H111 => J23_20 B cl n x0 x1 x4 x6 x7 H111 Q))))) (J23_20 B cl n x0 x1 x4 x6 x7 H Q))) : J23_12 B cl n x0 x1 x4 x6 x7 x28 x96 H Q := kp (by kernel_rfl) h
theorem J23_0_in {x0 : Int} {x1 : List UInt8} {x4 x6 x7 : AV} {x8 x9 : Int} {x10 : AV} (h :
 (ap B H (oF 3 x7) fun v112 _ => (ap B H (oF 1 v112) fun v113 _ => ob (peek B H v113) fun c114 => pLive c114 fun v115 => ob (peekN B H 7 x10) fun c116 => ob (layParts [(.bool false),(.int .i64 0),.nils,.nils,(.int .i64 0),.nils,.nils] [(0,7,.agg c116)]) fun c117 => slK H 7 1 c117 fun v118 H119 => (ap B H119 (oA 7 120 v115 v118) fun v120 H121 => (ap B H121 (oF 3 x7) fun v122 _ => (ap B H121 (oF 1 v122) fun v123 _ => (ap B H121 (oS 1 v123 v120) fun v124 H125 => J23_1 B cl n x0 x1 x4 x6 x7 x8 x9 H125 Q))))))) : J23_0 B cl n x0 x1 x4 x6 x7 x8 x9 x10 H Q := kp (by kernel_rfl) h
theorem J23_6_in {x0 : Int} {x1 : List UInt8} {x4 x6 x7 : AV} {x11 x12 : Int} (h :
 cl 58 [x6] H fun v126 H127 => pLive v126 fun v128 => (ap B H127 (.alloc [(.int .i64 0),.nils,.nils]) fun v129 H130 => (ap B H130 (oS 3 v129 v128) fun v131 H132 => J23_4 B cl n x0 x1 x4 x6 x7 x11 x12 v129 H132 Q))) : J23_6 B cl n x0 x1 x4 x6 x7 x11 x12 H Q := kp (by kernel_rfl) h
theorem J23_11_in {x0 : Int} {x1 : List UInt8} {x4 x6 x7 : AV} (h :
 cl 54 [x6] H fun v133 H134 => pStr v133 fun s135 => (ap B H134 (.toBytes (.const (.str s135))) fun v136 H137 => (ap B H137 (oF 7 x7) fun v138 _ => (ap B H137 (oS 1 v138 v136) fun v139 H140 => bs ((x0 : Int) == 5) (cl 55 [x6,.int .i64 512] H140 fun v141 H142 => pInt .i64 v141 fun n143 => L23_10 B cl n x0 x1 x4 x6 x7 n143 0 H142 Q) (J23_20 B cl n x0 x1 x4 x6 x7 H140 Q))))) : J23_11 B cl n x0 x1 x4 x6 x7 H Q := kp (by kernel_rfl) h
theorem J23_1_in {x0 : Int} {x1 : List UInt8} {x4 x6 x7 : AV} {x8 x9 : Int} (h :
 L23_3 B cl n x0 x1 x4 x6 x7 x8 (IntKind.i64.wrap (x9 + 1)) H Q) : J23_1 B cl n x0 x1 x4 x6 x7 x8 x9 H Q := kp (by kernel_rfl) h
theorem J23_4_in {x0 : Int} {x1 : List UInt8} {x4 x6 x7 : AV} {x11 x12 : Int} {x13 : AV} (h :
 (ap B H (oF 5 x7) fun v144 _ => (ap B H (oF 1 v144) fun v145 _ => ob (peek B H v145) fun c146 => pLive c146 fun v147 => ob (peekN B H 3 x13) fun c148 => ob (layParts [(.int .i64 0),.nils,.nils] [(0,3,.agg c148)]) fun c149 => slK H 3 1 c149 fun v150 H151 => (ap B H151 (oA 3 56 v147 v150) fun v152 H153 => (ap B H153 (oF 5 x7) fun v154 _ => (ap B H153 (oF 1 v154) fun v155 _ => (ap B H153 (oS 1 v155 v152) fun v156 H157 => J23_5 B cl n x0 x1 x4 x6 x7 x11 x12 H157 Q))))))) : J23_4 B cl n x0 x1 x4 x6 x7 x11 x12 x13 H Q := kp (by kernel_rfl) h
theorem L23_10_in {x0 : Int} {x1 : List UInt8} {x4 x6 x7 : AV} {x14 x15 : Int} (hcl : CLe cl cl) (h :
 bs (decide ((x15 : Int) < x14)) ((ap B H (oN x6) fun v158 _ => (ap B H (oF 1 v158) fun v159 _ => ob (peek B H v159) fun c160 => pBool c160 fun b161 => bs b161 (J23_20 B cl n x0 x1 x4 x6 x7 H Q) (J23_9 B cl n x0 x1 x4 x6 x7 x14 x15 H Q)))) (J23_20 B cl n x0 x1 x4 x6 x7 H Q)) : L23_10 B cl n x0 x1 x4 x6 x7 x14 x15 H Q := ALoop.round2 hcl rfl (Eq.mpr (by kernel_rfl) h)
theorem J23_5_in {x0 : Int} {x1 : List UInt8} {x4 x6 x7 : AV} {x11 x12 : Int} (h :
 L23_7 B cl n x0 x1 x4 x6 x7 x11 (IntKind.i64.wrap (x12 + 1)) H Q) : J23_5 B cl n x0 x1 x4 x6 x7 x11 x12 H Q := kp (by kernel_rfl) h
theorem J23_9_in {x0 : Int} {x1 : List UInt8} {x4 x6 x7 : AV} {x14 x15 : Int} (h :
 cl 53 [x6,.int .i64 64] H fun v162 H163 => pLive v162 fun v164 => (ap B H163 (oF 8 x7) fun v165 _ => ob (peek B H163 v165) fun c166 => pLive c166 fun v167 => ob (layParts [.nils] [(0,1,v164)]) fun c168 => slK H163 1 1 c168 fun v169 H170 => (ap B H170 (oA 1 24 v167 v169) fun v171 H172 => (ap B H172 (oF 8 x7) fun v173 _ => (ap B H172 (oS 1 v173 v171) fun v174 H175 => J23_8 B cl n x0 x1 x4 x6 x7 x14 x15 H175 Q))))) : J23_9 B cl n x0 x1 x4 x6 x7 x14 x15 H Q := kp (by kernel_rfl) h
theorem J23_8_in {x0 : Int} {x1 : List UInt8} {x4 x6 x7 : AV} {x14 x15 : Int} (h :
 L23_10 B cl n x0 x1 x4 x6 x7 x14 (IntKind.i64.wrap (x15 + 1)) H Q) : J23_8 B cl n x0 x1 x4 x6 x7 x14 x15 H Q := kp (by kernel_rfl) h
theorem f23_in {x0 : Int} {x1 : List UInt8} (h : fi B H [.int .i64 x0,.str x1] fun n cl =>
 (ap B H (.alloc [(.int .i64 0),(.int .i64 0),(.int .i64 0),.nils,.nils,.nils,.nils,.nils,.nils]) fun v1 H2 => J23_23 B cl n x0 x1 v1 H2 Q)) : Cl B 23 [.int .i64 x0,.str x1] H Q := fin rfl h (by kernel_rfl)
theorem f25_in {x0 : AV} {x1 : Bool} (h : fi B H [x0,.bool x1] fun n cl =>
 (ap B H (oN x0) fun v1 _ => (ap B H (oF 1 v1) fun v2 _ => ob (peek B H v2) fun c3 => pBool c3 fun b4 => bs b4 ((ap B H (oN x0) fun v5 _ => (ap B H (oF 1 v5) fun v6 _ => (ap B H (oS 1 v6 (.bool true)) fun v7 H8 => tidyK n Q (.tuple []) H8)))) ((ap B H (.not (.const (.bool x1))) fun v9 _ => (ap B H (oN x0) fun v10 _ => (ap B H (oF 1 v10) fun v11 _ => (ap B H (oS 1 v11 v9) fun v12 H13 => tidyK n Q (.tuple []) H13)))))))) : Cl B 25 [x0,.bool x1] H Q := fin rfl h (by kernel_rfl)
theorem L26_0_in {x3 x20 : AV} {x21 x22 : Int} (hcl : CLe cl cl) (h :
 bs (decide ((x22 : Int) < x21)) ((ap B H (oI 4 x20 (.int .i64 x22)) fun v11 _ => ob (peekN B H 4 v11) fun c12 => (ap B H (.alloc [(.str []),(.str []),(.bool false),(.int .i64 0)]) fun v13 H14 => (ap B H14 (oS 4 v13 (.agg c12)) fun v15 H16 => ob (peekN B H16 4 v13) fun c17 => calleeK B E0 H16 [.agg c17] (fun g20 z21 => cl g20 z21 H16 fun v18 H19 => pLive v18 fun v22 => L26_0 B cl n x3 x20 x21 (IntKind.i64.wrap (x22 + 1)) H19 Q) (.val (.const x3)))))) (tidyK n Q (.tuple []) H)) : L26_0 B cl n x3 x20 x21 x22 H Q := ALoop.round2 hcl rfl (Eq.mpr (by kernel_rfl) h)
theorem f26_in {x0 x1 : AV} {x2 : Int} {x3 : AV} (h : fi B H [x0,x1,.int .i64 x2,x3] fun n cl =>
 ob (lenOf x1) fun k1 => ibinK .leq .i64 (k1 : Int) x2 fun v2 => cl 25 [x0,v2] H fun v3 H4 => pLive v3 fun v5 => ob (lenOf x1) fun k6 => cl 29 [x0,.int .i64 (k6 : Int)] H4 fun v7 H8 => pLive v7 fun v9 => ob (lenOf x1) fun k10 => L26_0 B cl n x3 x1 (k10 : Int) 0 H8 Q) : Cl B 26 [x0,x1,.int .i64 x2,x3] H Q := fin rfl h (by kernel_rfl)
theorem f27_in {x0 x1 : AV} (h : fi B H [x0,x1] fun n cl =>
 (ap B H (.box 4 (.const x1)) fun v1 H2 => ob (peekN B H2 4 v1) fun c3 => cl 59 [.agg c3] H2 fun v4 H5 => tyK .bool v4 fun v6 => cl 25 [x0,v6] H5 fun v7 H8 => pLive v7 fun v9 => (ap B H8 (oN x0) fun v10 _ => (ap B H8 (oF 0 v10) fun v11 _ => ob (peek B H8 v11) fun c12 => pLive c12 fun v13 => ob (peekN B H8 4 v1) fun c14 => cl 60 [.agg c14] H8 fun v15 H16 => pLive v15 fun v17 => (ob (peek B H16 v11) fun c26 => pLive c26 fun v27 => (v27 : AV) = v13) ∧ (((ap B H16 (oF 0 v10) fun v25 _ => (v25 : AV) = v11)) ∧ (((ap B H16 (oN x0) fun v24 _ => (v24 : AV) = v10)) ∧ (((x0 : AV) = x0) ∧ (((x0 : AV) = x0) ∧ ((ap B H16 (oA 1 1 v13 v17) fun v18 H19 => ((x0 : AV) = x0) ∧ ((ap B H19 (oN x0) fun v20 _ => (ap B H19 (oF 0 v20) fun v21 _ => (ap B H19 (oS 1 v21 v18) fun v22 H23 => tidyK n Q (.tuple []) H23)))))))))))))) : Cl B 27 [x0,x1] H Q := fin rfl h (by kernel_rfl)
theorem f28_in {x0 : AV} {x1 : List UInt8} (h : fi B H [x0,.str x1] fun n cl =>
 (ap B H (oN x0) fun v1 _ => (ap B H (oF 0 v1) fun v2 _ => ob (peek B H v2) fun c3 => pLive c3 fun v4 => cl 61 [v4,.str x1] H fun v5 H6 => pLive v5 fun v7 => (ap B H6 (oN x0) fun v8 _ => (ap B H6 (oF 0 v8) fun v9 _ => (ap B H6 (oS 1 v9 v7) fun v10 H11 => tidyK n Q (.tuple []) H11)))))) : Cl B 28 [x0,.str x1] H Q := fin rfl h (by kernel_rfl)
theorem f29_in {x0 : AV} {x1 : Int} (h : fi B H [x0,.int .i64 x1] fun n cl =>
 bs (decide ((x1 : Int) ≥ 0)) (ibinK .leq .i64 x1 1099511627776 fun v1 => cl 25 [x0,v1] H fun v2 H3 => pLive v2 fun v4 => (ap B H3 (oN x0) fun v5 _ => (ap B H3 (oF 0 v5) fun v6 _ => ob (peek B H3 v6) fun c7 => pLive c7 fun v8 => cl 62 [v8,.int .u64 (IntKind.u64.wrap (maxInts x1 [0]))] H3 fun v9 H10 => pLive v9 fun v11 => (ap B H10 (oN x0) fun v12 _ => (ap B H10 (oF 0 v12) fun v13 _ => (ap B H10 (oS 1 v13 v11) fun v14 H15 => tidyK n Q (.tuple []) H15)))))) (cl 25 [x0,.bool false] H fun v16 H17 => pLive v16 fun v18 => (ap B H17 (oN x0) fun v19 _ => (ap B H17 (oF 0 v19) fun v20 _ => ob (peek B H17 v20) fun c21 => pLive c21 fun v22 => cl 62 [v22,.int .u64 (IntKind.u64.wrap (maxInts x1 [0]))] H17 fun v23 H24 => pLive v23 fun v25 => (ap B H24 (oN x0) fun v26 _ => (ap B H24 (oF 0 v26) fun v27 _ => (ap B H24 (oS 1 v27 v25) fun v28 H29 => tidyK n Q (.tuple []) H29))))))) : Cl B 29 [x0,.int .i64 x1] H Q := fin rfl h (by kernel_rfl)
theorem f30_in {x0 : AV} (h : fi B H [x0] fun n cl =>
 (ap B H (oN x0) fun v1 _ => (ap B H (oF 1 v1) fun v2 _ => ob (peek B H v2) fun c3 => pBool c3 fun b4 => bs b4 (tidyK n Q (.tuple [.nils,.int .i64 1]) H) ((ap B H (oN x0) fun v5 _ => (ap B H (oF 0 v5) fun v6 _ => ob (peek B H v6) fun c7 => pLive c7 fun v8 => tidyK n Q (.tuple [v8,.int .i64 0]) H)))))) : Cl B 30 [x0] H Q := fin rfl h (by kernel_rfl)
theorem J31_6_in {x0 : List UInt8} {x1 : AV} (h :
 ob (lenOf x1) fun k1 => cl 34 [.str x0,.int .i64 (k1 : Int)] H fun v2 H3 => pStr v2 fun s4 => L31_4 B cl n (.str s4) x1 0 H3 Q) : J31_6 B cl n x0 x1 H Q := kp (by kernel_rfl) h
theorem L31_4_in {x0 x1 : AV} {x6 : Int} (hcl : CLe cl cl) (h :
 ob (lenOf x1) fun k5 => bs (decide ((x6 : Int) < (k5 : Int))) (J31_3 B cl n x0 x1 x6 H Q) (J31_5 B cl n x0 H Q)) : L31_4 B cl n x0 x1 x6 H Q := ALoop.round2 hcl rfl (Eq.mpr (by kernel_rfl) h)
theorem J31_3_in {x0 x1 : AV} {x6 : Int} (h :
 (ap B H (oI 4 x1 (.int .i64 x6)) fun v6 _ => ob (peekN B H 4 v6) fun c7 => cl 63 [.agg c7] H fun v8 H9 => tyK .bool v8 fun v10 => J31_1 B cl n x0 x1 x6 v10 H9 Q)) : J31_3 B cl n x0 x1 x6 H Q := kp (by kernel_rfl) h
theorem J31_5_in {x0 : AV} (h :
 tidyK n Q (.tuple [x0,.bool true]) H) : J31_5 B cl n x0 H Q := kp (by kernel_rfl) h
theorem J31_1_in {x0 x1 : AV} {x6 : Int} {x7 : AV} (h :
 pBool x7 fun b11 => bs b11 (J31_0 B cl n x0 x1 x6 H Q) (tidyK n Q (.tuple [x0,.bool false]) H)) : J31_1 B cl n x0 x1 x6 x7 H Q := kp (by kernel_rfl) h
theorem J31_0_in {x0 x1 : AV} {x6 : Int} (h :
 (ap B H (oI 4 x1 (.int .i64 x6)) fun v12 _ => ob (peekN B H 4 v12) fun c13 => cl 64 [.agg c13] H fun v14 H15 => pStr v14 fun s16 => pStr x0 fun s17 => sbinK .add s17 s16 fun v18 => J31_2 B cl n v18 x1 x6 H15 Q)) : J31_0 B cl n x0 x1 x6 H Q := kp (by kernel_rfl) h
theorem J31_2_in {x0 x1 : AV} {x6 : Int} (h :
 L31_4 B cl n x0 x1 (IntKind.i64.wrap (x6 + 1)) H Q) : J31_2 B cl n x0 x1 x6 H Q := kp (by kernel_rfl) h
theorem f31_in {x0 : List UInt8} {x1 : AV} (h : fi B H [.str x0,x1] fun n cl =>
 J31_6 B cl n x0 x1 H Q) : Cl B 31 [.str x0,x1] H Q := fin rfl h (by kernel_rfl)
theorem f32_in {x0 x1 : List UInt8} (h : fi B H [.str x0,.str x1] fun n cl =>
 cl 65 [.str x0,.str x1] H fun v1 H2 => pStr v1 fun s3 => tidyK n Q (.str s3) H2) : Cl B 32 [.str x0,.str x1] H Q := fin rfl h (by kernel_rfl)
theorem f33_in {x0 : Int} (h : fi B H [.int .i64 x0] fun n cl =>
 bs (decide ((x0 : Int) ≥ 0)) (ibinK .leq .i64 x0 1099511627776 fun v1 => tidyK n Q v1 H) (tidyK n Q (.bool false) H)) : Cl B 33 [.int .i64 x0] H Q := fin rfl h (by kernel_rfl)
theorem f34_in {x0 : List UInt8} {x1 : Int} (h : fi B H [.str x0,.int .i64 x1] fun n cl =>
 cl 66 [.str x0,.int .u64 (IntKind.u64.wrap x1)] H fun v1 H2 => pStr v1 fun s3 => tidyK n Q (.str s3) H2) : Cl B 34 [.str x0,.int .i64 x1] H Q := fin rfl h (by kernel_rfl)
theorem L35_0_in {x0 x1 : AV} {x5 : Int} (hcl : CLe cl cl) (h :
 ob (lenOf x0) fun k3 => bs (decide ((x5 : Int) < (k3 : Int))) ((ap B H (oI 4 x0 (.int .i64 x5)) fun v4 _ => ob (peekN B H 4 v4) fun c5 => (ap B H (oI 4 x1 (.int .i64 x5)) fun v6 _ => ob (peekN B H 4 v6) fun c7 => (ap B H (.aeq true 4 [(0,.str),(1,.str),(2,.bool),(3,(.int .i64))] (.const (.agg c5)) (.const (.agg c7))) fun v8 _ => pBool v8 fun b9 => (if b9 = true then tidyK n Q (.bool false) H else L35_0 B cl n x0 x1 (IntKind.i64.wrap (x5 + 1)) H Q))))) (J35_1 B cl n H Q)) : L35_0 B cl n x0 x1 x5 H Q := ALoop.round2 hcl rfl (Eq.mpr (by kernel_rfl) h)
theorem J35_1_in (h :
 tidyK n Q (.bool true) H) : J35_1 B cl n  H Q := kp (by kernel_rfl) h
theorem f35_in {x0 x1 : AV} (h : fi B H [x0,x1] fun n cl =>
 ob (lenOf x0) fun k1 => ob (lenOf x1) fun k2 => bs (((k1 : Int) : Int) != (k2 : Int)) (tidyK n Q (.bool false) H) (L35_0 B cl n x0 x1 0 H Q)) : Cl B 35 [x0,x1] H Q := fin rfl h (by kernel_rfl)
end Go.Am
