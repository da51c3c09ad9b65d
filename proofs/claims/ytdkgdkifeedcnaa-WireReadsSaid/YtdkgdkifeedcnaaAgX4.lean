/- What the functions of the seat do,from label to label. -/
import Derived.Test.YtdkgdkifeedcnaaAf
namespace Go.Am
open Go
set_option maxRecDepth 100000
variable (B : Base) (cl : CallK) (n : Nat)
def k38_0 (Q : Po) : KQ := kt B cl n a38 c38_6 Q
def k38_1 (Q : Po) : KQ := (AExit.blockK 0 (k38_0 B cl n Q))
def k38_2 (Q : Po) : KQ := (AExit.thenK (fun e h => awC B cl (ALoop n) c38_5 e h (k38_1 B cl n Q)) (k38_1 B cl n Q))
def k38_3 (Q : Po) : KQ := (AExit.thenK (fun e h => awC B cl (ALoop n) c38_4 e h (k38_1 B cl n Q)) (k38_1 B cl n Q))
def k39_0 (B : Base) (cl : CallK) (n : Nat) (Q : AV → Heap → Prop) : KQ := (AExit.blockK 0 (fnQ B a39 (tidyK n Q)))
def k41_0 (B : Base) (cl : CallK) (n : Nat) (Q : AV → Heap → Prop) : KQ := (AExit.blockK 0 (fnQ B a41 (tidyK n Q)))
def k43_0 (B : Base) (cl : CallK) (n : Nat) (Q : AV → Heap → Prop) : KQ := (AExit.blockK 0 (fnQ B a43 (tidyK n Q)))
def k45_0 (Q : Po) : KQ := kt B cl n a45 c45_37 Q
def k45_1 (Q : Po) : KQ := (AExit.blockK 0 (k45_0 B cl n Q))
def k45_2 (Q : Po) : KQ := kt B cl n a45 c45_34 Q
def k45_3 (Q : Po) : KQ := (AExit.thenK (fun e h => awC B cl (ALoop n) c45_6 e h (k45_1 B cl n Q)) (k45_1 B cl n Q))
def k45_4 (Q : Po) : KQ := (AExit.blockK 1 (k45_3 B cl n Q))
def k45_5 (Q : Po) : KQ := (AExit.thenK (fun e h => awC B cl (ALoop n) c45_13 e h (k45_1 B cl n Q)) (k45_1 B cl n Q))
def k45_6 (Q : Po) : KQ := (AExit.blockK 3 (k45_5 B cl n Q))
def k45_7 (Q : Po) : KQ := (AExit.thenK (fun e h => awC B cl (ALoop n) c45_20 e h (k45_1 B cl n Q)) (k45_1 B cl n Q))
def k45_8 (Q : Po) : KQ := (AExit.blockK 5 (k45_7 B cl n Q))
def k45_9 (Q : Po) : KQ := (AExit.thenK (fun e h => awC B cl (ALoop n) c45_19 e h (k45_8 B cl n Q)) (k45_8 B cl n Q))
def k45_10 (Q : Po) : KQ := (AExit.thenK (fun e h => awC B cl (ALoop n) (.ops [⟨(some 171),none,(.op (.mov (.tmp 16)))⟩,⟨(some 172),none,(.op (.ibin .add .i64 (.tmp 171) (.const (.int .i64 1))))⟩,⟨(some 16),none,(.op (.mov (.tmp 172)))⟩]) e h (k45_9 B cl n Q)) (k45_9 B cl n Q))
def k45_11 (Q : Po) : KQ := (AExit.blockK 6 (k45_10 B cl n Q))
def k45_12 (Q : Po) : KQ := (AExit.thenK (fun e h => awC B cl (ALoop n) (.ops [⟨(some 196),none,(.op (.mov (.tmp 17)))⟩,⟨(some 0),none,(.op (.mov (.tmp 196)))⟩]) e h (k45_11 B cl n Q)) (k45_11 B cl n Q))
def k45_13 (Q : Po) : KQ := (AExit.thenK (fun e h => awC B cl (ALoop n) c45_5 e h (k45_4 B cl n Q)) (k45_4 B cl n Q))
def k45_14 (Q : Po) : KQ := (AExit.thenK (fun e h => awC B cl (ALoop n) c45_3 e h (k45_13 B cl n Q)) (k45_13 B cl n Q))
def k45_15 (Q : Po) : KQ := (AExit.blockK 2 (k45_14 B cl n Q))
def k45_16 (Q : Po) : KQ := (AExit.thenK (fun e h => awC B cl (ALoop n) c45_12 e h (k45_6 B cl n Q)) (k45_6 B cl n Q))
def k45_17 (Q : Po) : KQ := (AExit.thenK (fun e h => awC B cl (ALoop n) c45_10 e h (k45_16 B cl n Q)) (k45_16 B cl n Q))
def k45_18 (Q : Po) : KQ := (AExit.blockK 4 (k45_17 B cl n Q))
def k46_0 (Q : Po) : KQ := (AExit.thenK (fun e h => awC B cl (ALoop n) (.seq (.seq (.ops [⟨(some 5),none,(.op (.mov (.const (.int .i64 0))))⟩]) (.block 0 c46_3)) c46_4) e h (fnQ B a46 (tidyK n Q))) (fnQ B a46 (tidyK n Q)))
def k46_1 (Q : Po) : KQ := kt B cl n a46 c46_4 Q
def k46_2 (Q : Po) : KQ := (AExit.blockK 0 (k46_1 B cl n Q))
def k46_3 (Q : Po) : KQ := (AExit.thenK (fun e h => awC B cl (ALoop n) c46_3 e h (k46_2 B cl n Q)) (k46_2 B cl n Q))
def k46_4 (Q : Po) : KQ := (AExit.thenK (fun e h => awC B cl (ALoop n) (.ops [⟨(some 28),none,(.op (.mov (.tmp 5)))⟩,⟨(some 29),none,(.op (.ibin .add .i64 (.tmp 28) (.const (.int .i64 1))))⟩,⟨(some 5),none,(.op (.mov (.tmp 29)))⟩]) e h (k46_3 B cl n Q)) (k46_3 B cl n Q))
def k46_5 (Q : Po) : KQ := (AExit.blockK 1 (k46_4 B cl n Q))
def J38_9 (x0 : Int) (x3 : AV) (H : Heap) (Q : Po) := jn B cl n a38 c38_9 (ev 83 [(0,.int .i64 x0),(3,x3)]) H Q
def J38_8 (x0 : Int) (x3 x5 : AV) (H : Heap) (Q : Po) := jn B cl n a38 c38_8 (ev 83 [(0,.int .i64 x0),(3,x3),(5,x5)]) H Q
def J38_7 (x0 : Int) (x3 x5 x6 : AV) (H : Heap) (Q : Po) := jn B cl n a38 c38_7 (ev 83 [(0,.int .i64 x0),(3,x3),(5,x5),(6,x6)]) H Q
def J38_2 (x0 : Int) (x3 x6 x19 : AV) (H : Heap) (Q : Po) := jw B cl n c38_2 (ev 83 [(0,.int .i64 x0),(3,x3),(6,x6),(19,x19)]) H (k38_2 B cl n Q)
def J38_5 (x0 : Int) (x3 x19 : AV) (H : Heap) (Q : Po) := jw B cl n c38_5 (ev 83 [(0,.int .i64 x0),(3,x3),(19,x19)]) H (k38_1 B cl n Q)
def J38_1 (x0 : Int) (x3 x6 x19 : AV) (H : Heap) (Q : Po) := jw B cl n c38_1 (ev 83 [(0,.int .i64 x0),(3,x3),(6,x6),(19,x19)]) H (k38_2 B cl n Q)
def J38_3 (x0 : Int) (x3 x54 : AV) (H : Heap) (Q : Po) := jw B cl n c38_3 (ev 83 [(0,.int .i64 x0),(3,x3),(54,x54)]) H (k38_3 B cl n Q)
def J38_0 (x0 : Int) (x3 x19 : AV) (H : Heap) (Q : Po) := jw B cl n c38_0 (ev 83 [(0,.int .i64 x0),(3,x3),(19,x19)]) H (k38_2 B cl n Q)
def J38_4 (x54 : AV) (H : Heap) (Q : Po) := jw B cl n c38_4 (ev 83 [(54,x54)]) H (k38_1 B cl n Q)
def J38_6 (H : Heap) (Q : Po) := jn B cl n a38 c38_6 (ev 83 []) H Q
def L39_0 (x3 x20 : AV) (x21 x22 : Int) (H : Heap) (Q : Po) := jw B cl n c39_0 (ev 30 [(3,x3),(20,x20),(21,.int .i64 x21),(22,.int .i64 x22)]) H (k39_0 B cl n Q)
def L41_0 (x3 x20 : AV) (x21 x22 : Int) (H : Heap) (Q : Po) := jw B cl n c41_0 (ev 30 [(3,x3),(20,x20),(21,.int .i64 x21),(22,.int .i64 x22)]) H (k41_0 B cl n Q)
def L43_0 (x3 x20 : AV) (x21 x22 : Int) (H : Heap) (Q : Po) := jw B cl n c43_0 (ev 30 [(3,x3),(20,x20),(21,.int .i64 x21),(22,.int .i64 x22)]) H (k43_0 B cl n Q)
def J45_39 (x0 : List UInt8) (x1 : Int) (x5 x7 : AV) (H : Heap) (Q : Po) := jn B cl n a45 c45_39 (ev 229 [(0,.str x0),(1,.int .i64 x1),(5,x5),(7,x7)]) H Q
def J45_38 (x0 : List UInt8) (x1 : Int) (x5 x7 x9 : AV) (H : Heap) (Q : Po) := jn B cl n a45 c45_38 (ev 229 [(0,.str x0),(1,.int .i64 x1),(5,x5),(7,x7),(9,x9)]) H Q
def J45_32 (x0 : List UInt8) (x1 : Int) (x5 x7 x9 : AV) (x20 : Int) (H : Heap) (Q : Po) := jw B cl n c45_32 (ev 229 [(0,.str x0),(1,.int .i64 x1),(5,x5),(7,x7),(9,x9),(20,.int .i64 x20)]) H (k45_0 B cl n Q)
def J45_31 (x0 : List UInt8) (x1 : Int) (x5 x7 x9 : AV) (x20 : Int) (x21 : AV) (H : Heap) (Q : Po) := jw B cl n c45_31 (ev 229 [(0,.str x0),(1,.int .i64 x1),(5,x5),(7,x7),(9,x9),(20,.int .i64 x20),(21,x21)]) H (k45_1 B cl n Q)
def J45_1 (x0 : List UInt8) (x5 x7 x9 : AV) (H : Heap) (Q : Po) := jw B cl n c45_1 (ev 229 [(0,.str x0),(5,x5),(7,x7),(9,x9)]) H (k45_1 B cl n Q)
def J45_30 (x0 : List UInt8) (x1 : Int) (x5 x7 x9 : AV) (x20 : Int) (x37 : AV) (H : Heap) (Q : Po) := jw B cl n c45_30 (ev 229 [(0,.str x0),(1,.int .i64 x1),(5,x5),(7,x7),(9,x9),(20,.int .i64 x20),(37,x37)]) H (k45_1 B cl n Q)
def J45_0 (x0 : List UInt8) (x5 x7 x9 : AV) (H : Heap) (Q : Po) := jw B cl n c45_0 (ev 229 [(0,.str x0),(5,x5),(7,x7),(9,x9)]) H (k45_1 B cl n Q)
def J45_8 (x0 : List UInt8) (x5 x7 x9 : AV) (H : Heap) (Q : Po) := jw B cl n c45_8 (ev 229 [(0,.str x0),(5,x5),(7,x7),(9,x9)]) H (k45_1 B cl n Q)
def J45_29 (x0 : List UInt8) (x1 : Int) (x5 x7 x9 : AV) (x20 : Int) (x84 : AV) (H : Heap) (Q : Po) := jw B cl n c45_29 (ev 229 [(0,.str x0),(1,.int .i64 x1),(5,x5),(7,x7),(9,x9),(20,.int .i64 x20),(84,x84)]) H (k45_1 B cl n Q)
def J45_7 (x0 : List UInt8) (x5 x7 x9 : AV) (H : Heap) (Q : Po) := jw B cl n c45_7 (ev 229 [(0,.str x0),(5,x5),(7,x7),(9,x9)]) H (k45_1 B cl n Q)
def J45_15 (x0 : List UInt8) (x5 x7 x9 : AV) (H : Heap) (Q : Po) := jw B cl n c45_15 (ev 229 [(0,.str x0),(5,x5),(7,x7),(9,x9)]) H (k45_1 B cl n Q)
def J45_28 (x0 : List UInt8) (x1 : Int) (x5 x7 x9 x131 : AV) (H : Heap) (Q : Po) := jw B cl n c45_28 (ev 229 [(0,.str x0),(1,.int .i64 x1),(5,x5),(7,x7),(9,x9),(131,x131)]) H (k45_1 B cl n Q)
def L45_5 (x0 x5 x7 x9 : AV) (x10 : Int) (H : Heap) (Q : Po) := jw B cl n c45_5 (ev 229 [(0,x0),(5,x5),(7,x7),(9,x9),(10,.int .i64 x10)]) H (k45_4 B cl n Q)
def J45_14 (x0 : List UInt8) (x5 x7 x9 : AV) (H : Heap) (Q : Po) := jw B cl n c45_14 (ev 229 [(0,.str x0),(5,x5),(7,x7),(9,x9)]) H (k45_1 B cl n Q)
def J45_27 (x0 : List UInt8) (x1 : Int) (x5 x7 x9 : AV) (H : Heap) (Q : Po) := jw B cl n c45_27 (ev 229 [(0,.str x0),(1,.int .i64 x1),(5,x5),(7,x7),(9,x9)]) H (k45_1 B cl n Q)
def J45_37 (x0 : List UInt8) (x5 x7 x9 : AV) (H : Heap) (Q : Po) := jn B cl n a45 c45_37 (ev 229 [(0,.str x0),(5,x5),(7,x7),(9,x9)]) H Q
def J45_4 (x0 x5 x7 x9 : AV) (x10 : Int) (H : Heap) (Q : Po) := jw B cl n c45_4 (ev 229 [(0,x0),(5,x5),(7,x7),(9,x9),(10,.int .i64 x10)]) H (k45_13 B cl n Q)
def J45_6 (x0 x5 x7 x9 : AV) (H : Heap) (Q : Po) := jw B cl n c45_6 (ev 229 [(0,x0),(5,x5),(7,x7),(9,x9)]) H (k45_1 B cl n Q)
def L45_12 (x0 x5 x7 x9 : AV) (x13 : Int) (H : Heap) (Q : Po) := jw B cl n c45_12 (ev 229 [(0,x0),(5,x5),(7,x7),(9,x9),(13,.int .i64 x13)]) H (k45_6 B cl n Q)
def J45_26 (x0 : List UInt8) (x1 : Int) (x5 x7 x9 : AV) (H : Heap) (Q : Po) := jw B cl n c45_26 (ev 229 [(0,.str x0),(1,.int .i64 x1),(5,x5),(7,x7),(9,x9)]) H (k45_1 B cl n Q)
def J45_36 (x0 : List UInt8) (x5 x7 x9 : AV) (H : Heap) (Q : Po) := jn B cl n a45 c45_36 (ev 229 [(0,.str x0),(5,x5),(7,x7),(9,x9)]) H Q
def J45_2 (x0 x5 x7 x9 : AV) (x10 : Int) (x11 x12 : AV) (H : Heap) (Q : Po) := jw B cl n c45_2 (ev 229 [(0,x0),(5,x5),(7,x7),(9,x9),(10,.int .i64 x10),(11,x11),(12,x12)]) H (k45_15 B cl n Q)
def J45_11 (x0 x5 x7 x9 : AV) (x13 : Int) (H : Heap) (Q : Po) := jw B cl n c45_11 (ev 229 [(0,x0),(5,x5),(7,x7),(9,x9),(13,.int .i64 x13)]) H (k45_16 B cl n Q)
def J45_13 (x0 x5 x7 x9 : AV) (H : Heap) (Q : Po) := jw B cl n c45_13 (ev 229 [(0,x0),(5,x5),(7,x7),(9,x9)]) H (k45_1 B cl n Q)
def J45_25 (x0 : List UInt8) (x1 : Int) (x5 x7 x9 : AV) (H : Heap) (Q : Po) := jw B cl n c45_25 (ev 229 [(0,.str x0),(1,.int .i64 x1),(5,x5),(7,x7),(9,x9)]) H (k45_1 B cl n Q)
def J45_35 (x0 : List UInt8) (x5 x7 x9 : AV) (H : Heap) (Q : Po) := jn B cl n a45 c45_35 (ev 229 [(0,.str x0),(5,x5),(7,x7),(9,x9)]) H Q
def J45_3 (x0 x5 x7 x9 : AV) (x10 : Int) (H : Heap) (Q : Po) := jw B cl n c45_3 (ev 229 [(0,x0),(5,x5),(7,x7),(9,x9),(10,.int .i64 x10)]) H (k45_13 B cl n Q)
def J45_9 (x0 x5 x7 x9 : AV) (x13 : Int) (x14 x15 : AV) (H : Heap) (Q : Po) := jw B cl n c45_9 (ev 229 [(0,x0),(5,x5),(7,x7),(9,x9),(13,.int .i64 x13),(14,x14),(15,x15)]) H (k45_18 B cl n Q)
def J45_24 (x0 : List UInt8) (x1 : Int) (x5 x7 x9 : AV) (H : Heap) (Q : Po) := jw B cl n c45_24 (ev 229 [(0,.str x0),(1,.int .i64 x1),(5,x5),(7,x7),(9,x9)]) H (k45_1 B cl n Q)
def J45_33 (x0 : List UInt8) (x5 x7 x9 x218 : AV) (H : Heap) (Q : Po) := jw B cl n c45_33 (ev 229 [(0,.str x0),(5,x5),(7,x7),(9,x9),(218,x218)]) H (k45_2 B cl n Q)
def J45_10 (x0 x5 x7 x9 : AV) (x13 : Int) (H : Heap) (Q : Po) := jw B cl n c45_10 (ev 229 [(0,x0),(5,x5),(7,x7),(9,x9),(13,.int .i64 x13)]) H (k45_16 B cl n Q)
def J45_23 (x0 : List UInt8) (x5 x7 x9 : AV) (H : Heap) (Q : Po) := jw B cl n c45_23 (ev 229 [(0,.str x0),(5,x5),(7,x7),(9,x9)]) H (k45_1 B cl n Q)
def J45_34 (x0 : List UInt8) (x5 x7 x9 : AV) (H : Heap) (Q : Po) := jn B cl n a45 c45_34 (ev 229 [(0,.str x0),(5,x5),(7,x7),(9,x9)]) H Q
def J45_22 (x0 : List UInt8) (x5 x7 x9 : AV) (H : Heap) (Q : Po) := jw B cl n c45_22 (ev 229 [(0,.str x0),(5,x5),(7,x7),(9,x9)]) H (k45_1 B cl n Q)
def J45_21 (x0 : List UInt8) (x5 x7 x9 : AV) (H : Heap) (Q : Po) := jw B cl n c45_21 (ev 229 [(0,.str x0),(5,x5),(7,x7),(9,x9)]) H (k45_1 B cl n Q)
def L45_19 (x0 x5 x7 x9 : AV) (x16 : Int) (H : Heap) (Q : Po) := jw B cl n c45_19 (ev 229 [(0,x0),(5,x5),(7,x7),(9,x9),(16,.int .i64 x16)]) H (k45_8 B cl n Q)
def J45_18 (x0 x5 x7 x9 : AV) (x16 : Int) (H : Heap) (Q : Po) := jw B cl n c45_18 (ev 229 [(0,x0),(5,x5),(7,x7),(9,x9),(16,.int .i64 x16)]) H (k45_9 B cl n Q)
def J45_20 (x0 x5 x7 x9 : AV) (H : Heap) (Q : Po) := jw B cl n c45_20 (ev 229 [(0,x0),(5,x5),(7,x7),(9,x9)]) H (k45_1 B cl n Q)
def J45_17 (x0 x5 x7 x9 : AV) (x16 : Int) (x17 x18 : AV) (H : Heap) (Q : Po) := jw B cl n c45_17 (ev 229 [(0,x0),(5,x5),(7,x7),(9,x9),(16,.int .i64 x16),(17,x17),(18,x18)]) H (k45_11 B cl n Q)
def J45_16 (x0 x5 x7 x9 : AV) (x16 : Int) (x17 x193 : AV) (H : Heap) (Q : Po) := jw B cl n c45_16 (ev 229 [(0,x0),(5,x5),(7,x7),(9,x9),(16,.int .i64 x16),(17,x17),(193,x193)]) H (k45_12 B cl n Q)
def J46_5 (x2 x3 : AV) (H : Heap) (Q : Po) := jn B cl n a46 c46_5 (ev 43 [(2,x2),(3,x3)]) H Q
def J46_0 (x2 x3 x22 : AV) (H : Heap) (Q : Po) := jw B cl n c46_0 (ev 43 [(2,x2),(3,x3),(22,x22)]) H (k46_0 B cl n Q)
def L46_3 (x2 x3 : AV) (x5 : Int) (H : Heap) (Q : Po) := jw B cl n c46_3 (ev 43 [(2,x2),(3,x3),(5,.int .i64 x5)]) H (k46_2 B cl n Q)
def J46_2 (x2 x3 : AV) (x5 : Int) (H : Heap) (Q : Po) := jw B cl n c46_2 (ev 43 [(2,x2),(3,x3),(5,.int .i64 x5)]) H (k46_3 B cl n Q)
def J46_4 (H : Heap) (Q : Po) := jn B cl n a46 c46_4 (ev 43 []) H Q
def J46_1 (x2 x3 : AV) (x5 : Int) (x6 : AV) (H : Heap) (Q : Po) := jw B cl n c46_1 (ev 43 [(2,x2),(3,x3),(5,.int .i64 x5),(6,x6)]) H (k46_5 B cl n Q)
variable {B cl n} {H : Heap} {Q : Po}
theorem J38_9_in {x0 : Int} {x3 : AV} (h :
 bs ((x0 : Int) == 1) (J38_8 B cl n x0 x3 (.bool true) H Q) (ibinK .eql .i64 x0 6 fun v3 => J38_8 B cl n x0 x3 v3 H Q)) : J38_9 B cl n x0 x3 H Q := kp (by kernel_rfl) h
theorem J38_8_in {x0 : Int} {x3 x5 : AV} (h :
 bs ((x0 : Int) == 4) (J38_7 B cl n x0 x3 x5 (.bool true) H Q) (ibinK .eql .i64 x0 5 fun v4 => J38_7 B cl n x0 x3 x5 v4 H Q)) : J38_8 B cl n x0 x3 x5 H Q := kp (by kernel_rfl) h
theorem J38_7_in {x0 : Int} {x3 x5 x6 : AV} (h :
 (ap B H (oF 1 x3) fun v5 _ => ob (peek B H v5) fun c6 => pInt .i64 c6 fun n7 => bs ((n7 : Int) != 0) ((ap B H (.not (.const x5)) fun v8 _ => J38_2 B cl n x0 x3 x6 v8 H Q)) (J38_2 B cl n x0 x3 x6 (.bool false) H Q))) : J38_7 B cl n x0 x3 x5 x6 H Q := kp (by kernel_rfl) h
theorem J38_2_in {x0 : Int} {x3 x6 x19 : AV} (h :
 pBool x19 fun b9 => (if b9 = true then J38_5 B cl n x0 x3 x19 H Q else (ap B H (oF 2 x3) fun v10 _ => ob (peek B H v10) fun c11 => pInt .i64 c11 fun n12 => bs ((n12 : Int) != 0) (pBool x6 fun b13 => bs b13 (J38_1 B cl n x0 x3 x6 (.bool false) H Q) (ibinK .neq .i64 x0 6 fun v14 => J38_1 B cl n x0 x3 x6 v14 H Q)) (J38_1 B cl n x0 x3 x6 (.bool false) H Q)))) : J38_2 B cl n x0 x3 x6 x19 H Q := kp (by kernel_rfl) h
theorem J38_5_in {x0 : Int} {x3 x19 : AV} (h :
 pBool x19 fun b15 => (if b15 = true then tidyK n Q (.bool false) H else (ap B H (oF 3 x3) fun v16 _ => (ap B H (oF 0 v16) fun v17 _ => ob (peek B H v17) fun c18 => pLive c18 fun v19 => ob (lenOf v19) fun k20 => (ap B H (oF 3 x3) fun v21 _ => (ap B H (oF 1 v21) fun v22 _ => ob (peek B H v22) fun c23 => pLive c23 fun v24 => ob (lenOf v24) fun k25 => bs (decide ((IntKind.i64.wrap ((k20 : Int) + (k25 : Int)) : Int) > 0)) (ibinK .neq .i64 x0 2 fun v26 => J38_3 B cl n x0 x3 v26 H Q) (J38_3 B cl n x0 x3 (.bool false) H Q))))))) : J38_5 B cl n x0 x3 x19 H Q := kp (by kernel_rfl) h
theorem J38_1_in {x0 : Int} {x3 x6 x19 : AV} (h :
 pBool x19 fun b27 => (if b27 = true then J38_5 B cl n x0 x3 x19 H Q else (ap B H (oF 7 x3) fun v28 _ => ob (peek B H v28) fun c29 => pLive c29 fun v30 => ob (lenOf v30) fun k31 => bs (decide (((k31 : Int) : Int) > 0)) ((ap B H (.not (.const x6)) fun v32 _ => J38_0 B cl n x0 x3 v32 H Q)) (J38_0 B cl n x0 x3 (.bool false) H Q)))) : J38_1 B cl n x0 x3 x6 x19 H Q := kp (by kernel_rfl) h
theorem J38_3_in {x0 : Int} {x3 x54 : AV} (h :
 pBool x54 fun b33 => (if b33 = true then J38_4 B cl n x54 H Q else (ap B H (oF 5 x3) fun v34 _ => (ap B H (oF 0 v34) fun v35 _ => ob (peek B H v35) fun c36 => pLive c36 fun v37 => ob (lenOf v37) fun k38 => (ap B H (oF 5 x3) fun v39 _ => (ap B H (oF 1 v39) fun v40 _ => ob (peek B H v40) fun c41 => pLive c41 fun v42 => ob (lenOf v42) fun k43 => bs (decide ((IntKind.i64.wrap ((k38 : Int) + (k43 : Int)) : Int) > 0)) (ibinK .neq .i64 x0 3 fun v44 => J38_4 B cl n v44 H Q) (J38_4 B cl n (.bool false) H Q))))))) : J38_3 B cl n x0 x3 x54 H Q := kp (by kernel_rfl) h
theorem J38_0_in {x0 : Int} {x3 x19 : AV} (h :
 pBool x19 fun b45 => (if b45 = true then J38_5 B cl n x0 x3 x19 H Q else (ap B H (oF 8 x3) fun v46 _ => ob (peek B H v46) fun c47 => pLive c47 fun v48 => ob (lenOf v48) fun k49 => bs (decide (((k49 : Int) : Int) > 0)) (ibinK .neq .i64 x0 5 fun v50 => J38_5 B cl n x0 x3 v50 H Q) (J38_5 B cl n x0 x3 (.bool false) H Q)))) : J38_0 B cl n x0 x3 x19 H Q := kp (by kernel_rfl) h
theorem J38_4_in {x54 : AV} (h :
 pBool x54 fun b51 => (if b51 = true then tidyK n Q (.bool false) H else J38_6 B cl n H Q)) : J38_4 B cl n x54 H Q := kp (by kernel_rfl) h
theorem J38_6_in (h :
 tidyK n Q (.bool true) H) : J38_6 B cl n  H Q := kp (by kernel_rfl) h
theorem f38_in {x0 : Int} {x1 : AV} (h : fi B H [.int .i64 x0,x1] fun n cl =>
 (ap B H (.box 9 (.const x1)) fun v1 H2 => J38_9 B cl n x0 v1 H2 Q)) : Cl B 38 [.int .i64 x0,x1] H Q := fin rfl h (by kernel_rfl)
theorem L39_0_in {x3 x20 : AV} {x21 x22 : Int} (hcl : CLe cl cl) (h :
 bs (decide ((x22 : Int) < x21)) ((ap B H (oI 7 x20 (.int .i64 x22)) fun v11 _ => ob (peekN B H 7 v11) fun c12 => (ap B H (.alloc [(.bool false),(.int .i64 0),.nils,.nils,(.int .i64 0),.nils,.nils]) fun v13 H14 => (ap B H14 (oS 7 v13 (.agg c12)) fun v15 H16 => ob (peekN B H16 7 v13) fun c17 => calleeK B E0 H16 [.agg c17] (fun g20 z21 => cl g20 z21 H16 fun v18 H19 => pLive v18 fun v22 => L39_0 B cl n x3 x20 x21 (IntKind.i64.wrap (x22 + 1)) H19 Q) (.val (.const x3)))))) (tidyK n Q (.tuple []) H)) : L39_0 B cl n x3 x20 x21 x22 H Q := ALoop.round2 hcl rfl (Eq.mpr (by kernel_rfl) h)
theorem f39_in {x0 x1 : AV} {x2 : Int} {x3 : AV} (h : fi B H [x0,x1,.int .i64 x2,x3] fun n cl =>
 ob (lenOf x1) fun k1 => ibinK .leq .i64 (k1 : Int) x2 fun v2 => cl 25 [x0,v2] H fun v3 H4 => pLive v3 fun v5 => ob (lenOf x1) fun k6 => cl 29 [x0,.int .i64 (k6 : Int)] H4 fun v7 H8 => pLive v7 fun v9 => ob (lenOf x1) fun k10 => L39_0 B cl n x3 x1 (k10 : Int) 0 H8 Q) : Cl B 39 [x0,x1,.int .i64 x2,x3] H Q := fin rfl h (by kernel_rfl)
theorem f40_in {x0 x1 : AV} (h : fi B H [x0,x1] fun n cl =>
 (ap B H (.box 7 (.const x1)) fun v1 H2 => (ap B H2 (oF 0 v1) fun v3 _ => ob (peek B H2 v3) fun c4 => tyK .bool c4 fun v5 => cl 67 [x0,v5] H2 fun v6 H7 => pLive v6 fun v8 => (ap B H7 (oF 1 v1) fun v9 _ => ob (peekN B H7 3 v9) fun c10 => cl 68 [x0,.agg c10] H7 fun v11 H12 => pLive v11 fun v13 => (ap B H12 (oF 0 v1) fun v14 _ => ob (peek B H12 v14) fun c15 => pBool c15 fun b16 => bs b16 ((ap B H12 (oF 4 v1) fun v17 _ => ob (peekN B H12 3 v17) fun c18 => cl 68 [x0,.agg c18] H12 fun v19 H20 => pLive v19 fun v21 => tidyK n Q (.tuple []) H20)) ((ap B H12 (oF 4 v1) fun v22 _ => ob (peekN B H12 3 v22) fun c23 => cl 69 [.agg c23] H12 fun v24 H25 => tyK .bool v24 fun v26 => cl 25 [x0,v26] H25 fun v27 H28 => pLive v27 fun v29 => tidyK n Q (.tuple []) H28))))))) : Cl B 40 [x0,x1] H Q := fin rfl h (by kernel_rfl)
theorem L41_0_in {x3 x20 : AV} {x21 x22 : Int} (hcl : CLe cl cl) (h :
 bs (decide ((x22 : Int) < x21)) ((ap B H (oI 3 x20 (.int .i64 x22)) fun v11 _ => ob (peekN B H 3 v11) fun c12 => (ap B H (.alloc [(.int .i64 0),.nils,.nils]) fun v13 H14 => (ap B H14 (oS 3 v13 (.agg c12)) fun v15 H16 => ob (peekN B H16 3 v13) fun c17 => calleeK B E0 H16 [.agg c17] (fun g20 z21 => cl g20 z21 H16 fun v18 H19 => pLive v18 fun v22 => L41_0 B cl n x3 x20 x21 (IntKind.i64.wrap (x22 + 1)) H19 Q) (.val (.const x3)))))) (tidyK n Q (.tuple []) H)) : L41_0 B cl n x3 x20 x21 x22 H Q := ALoop.round2 hcl rfl (Eq.mpr (by kernel_rfl) h)
theorem f41_in {x0 x1 : AV} {x2 : Int} {x3 : AV} (h : fi B H [x0,x1,.int .i64 x2,x3] fun n cl =>
 ob (lenOf x1) fun k1 => ibinK .leq .i64 (k1 : Int) x2 fun v2 => cl 25 [x0,v2] H fun v3 H4 => pLive v3 fun v5 => ob (lenOf x1) fun k6 => cl 29 [x0,.int .i64 (k6 : Int)] H4 fun v7 H8 => pLive v7 fun v9 => ob (lenOf x1) fun k10 => L41_0 B cl n x3 x1 (k10 : Int) 0 H8 Q) : Cl B 41 [x0,x1,.int .i64 x2,x3] H Q := fin rfl h (by kernel_rfl)
theorem f42_in {x0 x1 : AV} (h : fi B H [x0,x1] fun n cl =>
 (ap B H (.box 1 (.const x0)) fun v1 H2 => (ap B H2 (.box 3 (.const x1)) fun v3 H4 => ob (peek B H4 v1) fun c5 => pLive c5 fun v6 => (ap B H4 (oF 0 v3) fun v7 _ => ob (peek B H4 v7) fun c8 => pInt .i64 c8 fun n9 => cl 29 [v6,.int .i64 n9] H4 fun v10 H11 => pLive v10 fun v12 => ob (peek B H11 v1) fun c13 => pLive c13 fun v14 => (ap B H11 (oF 1 v3) fun v15 _ => ob (peek B H11 v15) fun c16 => pLive c16 fun v17 => cl 70 [v14,v17,.int .i64 64,.func (.func 71) [] [v1]] H11 fun v18 H19 => pLive v18 fun v20 => ob (peek B H19 v1) fun c21 => pLive c21 fun v22 => (ap B H19 (oF 2 v3) fun v23 _ => ob (peek B H19 v23) fun c24 => pLive c24 fun v25 => ob (peek B H19 v1) fun c26 => pLive c26 fun v27 => cl 72 [v22,v25,.int .i64 64,.func (.func 73) [v27] []] H19 fun v28 H29 => pLive v28 fun v30 => tidyK n Q (.tuple []) H29)))))) : Cl B 42 [x0,x1] H Q := fin rfl h (by kernel_rfl)
theorem L43_0_in {x3 x20 : AV} {x21 x22 : Int} (hcl : CLe cl cl) (h :
 bs (decide ((x22 : Int) < x21)) ((ap B H (oI 1 x20 (.int .i64 x22)) fun v11 _ => ob (peek B H v11) fun c12 => pLive c12 fun v13 => calleeK B E0 H [v13] (fun g16 z17 => cl g16 z17 H fun v14 H15 => pLive v14 fun v18 => L43_0 B cl n x3 x20 x21 (IntKind.i64.wrap (x22 + 1)) H15 Q) (.val (.const x3)))) (tidyK n Q (.tuple []) H)) : L43_0 B cl n x3 x20 x21 x22 H Q := ALoop.round2 hcl rfl (Eq.mpr (by kernel_rfl) h)
theorem f43_in {x0 x1 : AV} {x2 : Int} {x3 : AV} (h : fi B H [x0,x1,.int .i64 x2,x3] fun n cl =>
 ob (lenOf x1) fun k1 => ibinK .leq .i64 (k1 : Int) x2 fun v2 => cl 25 [x0,v2] H fun v3 H4 => pLive v3 fun v5 => ob (lenOf x1) fun k6 => cl 29 [x0,.int .i64 (k6 : Int)] H4 fun v7 H8 => pLive v7 fun v9 => ob (lenOf x1) fun k10 => L43_0 B cl n x3 x1 (k10 : Int) 0 H8 Q) : Cl B 43 [x0,x1,.int .i64 x2,x3] H Q := fin rfl h (by kernel_rfl)
theorem f44_in {x0 x1 : AV} (h : fi B H [x0,x1] fun n cl =>
 cl 26 [x0,x1,.int .i64 64,.func (.func 27) [x0] []] H fun v1 H2 => pLive v1 fun v3 => tidyK n Q (.tuple []) H2) : Cl B 44 [x0,x1] H Q := fin rfl h (by kernel_rfl)
theorem J45_39_in {x0 : List UInt8} {x1 : Int} {x5 x7 : AV} (h :
 ob (layParts [(.int .i64 0),(.int .i64 0),(.int .i64 0),.nils,.nils,.nils,.nils,.nils,.nils] []) fun c5 => (ap B H (.alloc [(.int .i64 0),(.int .i64 0),(.int .i64 0),.nils,.nils,.nils,.nils,.nils,.nils]) fun v6 H7 => (ap B H7 (oS 9 v6 (.agg c5)) fun v8 H9 => J45_38 B cl n x0 x1 x5 x7 v6 H9 Q))) : J45_39 B cl n x0 x1 x5 x7 H Q := kp (by simp only [ap,aop_w]; kernel_rfl) h
theorem J45_38_in {x0 : List UInt8} {x1 : Int} {x5 x7 x9 : AV} (h :
 J45_32 B cl n x0 x1 x5 x7 x9 x1 H Q) : J45_38 B cl n x0 x1 x5 x7 x9 H Q := kp (by kernel_rfl) h
theorem J45_32_in {x0 : List UInt8} {x1 : Int} {x5 x7 x9 : AV} {x20 : Int} (h :
 ibinK .eql .i64 x20 1 fun v10 => J45_31 B cl n x0 x1 x5 x7 x9 x20 v10 H Q) : J45_32 B cl n x0 x1 x5 x7 x9 x20 H Q := kp (by kernel_rfl) h
theorem J45_31_in {x0 : List UInt8} {x1 : Int} {x5 x7 x9 : AV} {x20 : Int} {x21 : AV} (h :
 pBool x21 fun b11 => (if b11 = true then (ap B H (oF 1 x5) fun v12 _ => ob (peek B H v12) fun c13 => pInt .i64 c13 fun n14 => (ap B H (oF 1 x9) fun v15 _ => (ap B H (oS 1 v15 (.int .i64 n14)) fun v16 H17 => J45_1 B cl n x0 x5 x7 x9 H17 Q))) else ibinK .eql .i64 x20 2 fun v18 => J45_30 B cl n x0 x1 x5 x7 x9 x20 v18 H Q)) : J45_31 B cl n x0 x1 x5 x7 x9 x20 x21 H Q := kp (by simp only [ap,aop_w]; kernel_rfl) h
theorem J45_1_in {x0 : List UInt8} {x5 x7 x9 : AV} (h :
 (ap B H (oF 1 x5) fun v19 _ => ob (peek B H v19) fun c20 => pInt .i64 c20 fun n21 => cl 33 [.int .i64 n21] H fun v22 H23 => pBool v22 fun b24 => bs b24 (J45_0 B cl n x0 x5 x7 x9 H23 Q) (ob (peekN B H23 9 x9) fun c25 => (ap B H23 (oS 9 x7 (.agg c25)) fun v26 H27 => ob (peekN B H27 9 x7) fun c28 => tidyK n Q (.tuple [.str x0,.agg c28,.bool false]) H27)))) : J45_1 B cl n x0 x5 x7 x9 H Q := kp (by simp only [ap,aop_w]; kernel_rfl) h
theorem J45_30_in {x0 : List UInt8} {x1 : Int} {x5 x7 x9 : AV} {x20 : Int} {x37 : AV} (h :
 pBool x37 fun b29 => (if b29 = true then (ap B H (oF 3 x5) fun v30 _ => ob (peekN B H 2 v30) fun c31 => (ap B H (oF 3 x9) fun v32 _ => (ap B H (oS 2 v32 (.agg c31)) fun v33 H34 => J45_8 B cl n x0 x5 x7 x9 H34 Q))) else ibinK .eql .i64 x20 3 fun v35 => J45_29 B cl n x0 x1 x5 x7 x9 x20 v35 H Q)) : J45_30 B cl n x0 x1 x5 x7 x9 x20 x37 H Q := kp (by simp only [ap,aop_w]; kernel_rfl) h
theorem J45_0_in {x0 : List UInt8} {x5 x7 x9 : AV} (h :
 (ap B H (oF 1 x5) fun v36 _ => ob (peek B H v36) fun c37 => pInt .i64 c37 fun n38 => ob (peekN B H 9 x9) fun c39 => cl 34 [.str x0,.int .i64 n38] H fun v40 H41 => pStr v40 fun s42 => (ob (peekN B H41 9 x9) fun c46 => (.agg c46 : AV) = .agg c39) ∧ ((ap B H41 (oS 9 x7 (.agg c39)) fun v43 H44 => ob (peekN B H44 9 x7) fun c45 => tidyK n Q (.tuple [.str s42,.agg c45,.bool true]) H44)))) : J45_0 B cl n x0 x5 x7 x9 H Q := kp (by simp only [ap,aop_w]; kernel_rfl) h
theorem J45_8_in {x0 : List UInt8} {x5 x7 x9 : AV} (h :
 (ap B H (oF 3 x5) fun v47 _ => (ap B H (oF 0 v47) fun v48 _ => ob (peek B H v48) fun c49 => pLive c49 fun v50 => (ap B H (.toStr (.const v50)) fun v51 _ => (ap B H (oF 3 x5) fun v52 _ => (ap B H (oF 1 v52) fun v53 _ => ob (peek B H v53) fun c54 => pLive c54 fun v55 => ob (lenOf v55) fun k56 => cl 32 [.str x0,v51] H fun v57 H58 => pStr v57 fun s59 => (ob (lenOf v55) fun k67 => (.int .i64 (k67 : Int) : AV) = .int .i64 (k56 : Int)) ∧ ((ob (peek B H58 v53) fun c65 => pLive c65 fun v66 => (v66 : AV) = v55) ∧ (((ap B H58 (oF 1 v52) fun v64 _ => (v64 : AV) = v53)) ∧ (((ap B H58 (oF 3 x5) fun v63 _ => (v63 : AV) = v52)) ∧ (cl 34 [.str s59,.int .i64 (k56 : Int)] H58 fun v60 H61 => pStr v60 fun s62 => J45_7 B cl n s62 x5 x7 x9 H61 Q)))))))))) : J45_8 B cl n x0 x5 x7 x9 H Q := kp (by simp only [ap,aop_w]; kernel_rfl) h
theorem J45_29_in {x0 : List UInt8} {x1 : Int} {x5 x7 x9 : AV} {x20 : Int} {x84 : AV} (h :
 pBool x84 fun b68 => (if b68 = true then (ap B H (oF 5 x5) fun v69 _ => ob (peekN B H 2 v69) fun c70 => (ap B H (oF 5 x9) fun v71 _ => (ap B H (oS 2 v71 (.agg c70)) fun v72 H73 => J45_15 B cl n x0 x5 x7 x9 H73 Q))) else bs ((x20 : Int) == 4) (J45_28 B cl n x0 x1 x5 x7 x9 (.bool true) H Q) (ibinK .eql .i64 x20 5 fun v74 => J45_28 B cl n x0 x1 x5 x7 x9 v74 H Q))) : J45_29 B cl n x0 x1 x5 x7 x9 x20 x84 H Q := kp (by simp only [ap,aop_w]; kernel_rfl) h
theorem J45_7_in {x0 : List UInt8} {x5 x7 x9 : AV} (h :
 L45_5 B cl n (.str x0) x5 x7 x9 0 H Q) : J45_7 B cl n x0 x5 x7 x9 H Q := kp (by kernel_rfl) h
theorem J45_15_in {x0 : List UInt8} {x5 x7 x9 : AV} (h :
 (ap B H (oF 5 x5) fun v75 _ => (ap B H (oF 0 v75) fun v76 _ => ob (peek B H v76) fun c77 => pLive c77 fun v78 => (ap B H (.toStr (.const v78)) fun v79 _ => (ap B H (oF 5 x5) fun v80 _ => (ap B H (oF 1 v80) fun v81 _ => ob (peek B H v81) fun c82 => pLive c82 fun v83 => ob (lenOf v83) fun k84 => cl 32 [.str x0,v79] H fun v85 H86 => pStr v85 fun s87 => (ob (lenOf v83) fun k95 => (.int .i64 (k95 : Int) : AV) = .int .i64 (k84 : Int)) ∧ ((ob (peek B H86 v81) fun c93 => pLive c93 fun v94 => (v94 : AV) = v83) ∧ (((ap B H86 (oF 1 v80) fun v92 _ => (v92 : AV) = v81)) ∧ (((ap B H86 (oF 5 x5) fun v91 _ => (v91 : AV) = v80)) ∧ (cl 34 [.str s87,.int .i64 (k84 : Int)] H86 fun v88 H89 => pStr v88 fun s90 => J45_14 B cl n s90 x5 x7 x9 H89 Q)))))))))) : J45_15 B cl n x0 x5 x7 x9 H Q := kp (by simp only [ap,aop_w]; kernel_rfl) h
theorem J45_28_in {x0 : List UInt8} {x1 : Int} {x5 x7 x9 x131 : AV} (h :
 pBool x131 fun b96 => (if b96 = true then (ap B H (oF 2 x5) fun v97 _ => ob (peek B H v97) fun c98 => pInt .i64 c98 fun n99 => (ap B H (oF 2 x9) fun v100 _ => (ap B H (oS 1 v100 (.int .i64 n99)) fun v101 H102 => J45_27 B cl n x0 x1 x5 x7 x9 H102 Q))) else J45_37 B cl n x0 x5 x7 x9 H Q)) : J45_28 B cl n x0 x1 x5 x7 x9 x131 H Q := kp (by simp only [ap,aop_w]; kernel_rfl) h
theorem L45_5_in {x0 x5 x7 x9 : AV} {x10 : Int} (hcl : CLe cl cl) (h :
 (ap B H (oF 3 x5) fun v103 _ => (ap B H (oF 1 v103) fun v104 _ => ob (peek B H v104) fun c105 => pLive c105 fun v106 => ob (lenOf v106) fun k107 => bs (decide ((x10 : Int) < (k107 : Int))) (J45_4 B cl n x0 x5 x7 x9 x10 H Q) (J45_6 B cl n x0 x5 x7 x9 H Q)))) : L45_5 B cl n x0 x5 x7 x9 x10 H Q := ALoop.round2 hcl rfl (Eq.mpr (by simp only [ap,aop_w]; kernel_rfl) h)
theorem J45_14_in {x0 : List UInt8} {x5 x7 x9 : AV} (h :
 L45_12 B cl n (.str x0) x5 x7 x9 0 H Q) : J45_14 B cl n x0 x5 x7 x9 H Q := kp (by kernel_rfl) h
theorem J45_27_in {x0 : List UInt8} {x1 : Int} {x5 x7 x9 : AV} (h :
 (ap B H (oF 7 x5) fun v108 _ => ob (peek B H v108) fun c109 => pLive c109 fun v110 => (ap B H (oF 7 x9) fun v111 _ => (ap B H (oS 1 v111 v110) fun v112 H113 => J45_26 B cl n x0 x1 x5 x7 x9 H113 Q)))) : J45_27 B cl n x0 x1 x5 x7 x9 H Q := kp (by simp only [ap,aop_w]; kernel_rfl) h
theorem J45_37_in {x0 : List UInt8} {x5 x7 x9 : AV} (h :
 (ap B H (oF 1 x5) fun v114 _ => ob (peek B H v114) fun c115 => pInt .i64 c115 fun n116 => (ap B H (oF 1 x9) fun v117 _ => (ap B H (oS 1 v117 (.int .i64 n116)) fun v118 H119 => J45_36 B cl n x0 x5 x7 x9 H119 Q)))) : J45_37 B cl n x0 x5 x7 x9 H Q := kp (by simp only [ap,aop_w]; kernel_rfl) h
theorem J45_4_in {x0 x5 x7 x9 : AV} {x10 : Int} (h :
 (ap B H (oF 3 x5) fun v120 _ => (ap B H (oF 1 v120) fun v121 _ => ob (peek B H v121) fun c122 => pLive c122 fun v123 => (ap B H (oI 7 v123 (.int .i64 x10)) fun v124 _ => ob (peekN B H 7 v124) fun c125 => cl 74 [x0,.agg c125] H fun v126 H127 => pLive v126 fun v128 => (ap B H127 (oX 0 (some .str) v128) fun v129 _ => (ap B H127 (oX 1 (some .bool) v128) fun v130 _ => J45_2 B cl n x0 x5 x7 x9 x10 v129 v130 H127 Q)))))) : J45_4 B cl n x0 x5 x7 x9 x10 H Q := kp (by simp only [ap,aop_w]; kernel_rfl) h
theorem J45_6_in {x0 x5 x7 x9 : AV} (h :
 ob (peekN B H 9 x9) fun c131 => (ap B H (oF 3 x5) fun v132 _ => (ap B H (oF 1 v132) fun v133 _ => ob (peek B H v133) fun c134 => pLive c134 fun v135 => ob (lenOf v135) fun k136 => ibinK .leq .i64 (k136 : Int) 512 fun v137 => (ap B H (oS 9 x7 (.agg c131)) fun v138 H139 => (ibinK .leq .i64 (k136 : Int) 512 fun v146 => (v146 : AV) = v137) ∧ ((ob (lenOf v135) fun k145 => (.int .i64 (k145 : Int) : AV) = .int .i64 (k136 : Int)) ∧ ((ob (peek B H139 v133) fun c143 => pLive c143 fun v144 => (v144 : AV) = v135) ∧ (((ap B H139 (oF 1 v132) fun v142 _ => (v142 : AV) = v133)) ∧ (((ap B H139 (oF 3 x5) fun v141 _ => (v141 : AV) = v132)) ∧ (ob (peekN B H139 9 x7) fun c140 => tidyK n Q (.tuple [x0,.agg c140,v137]) H139))))))))) : J45_6 B cl n x0 x5 x7 x9 H Q := kp (by simp only [ap,aop_w]; kernel_rfl) h
theorem L45_12_in {x0 x5 x7 x9 : AV} {x13 : Int} (hcl : CLe cl cl) (h :
 (ap B H (oF 5 x5) fun v147 _ => (ap B H (oF 1 v147) fun v148 _ => ob (peek B H v148) fun c149 => pLive c149 fun v150 => ob (lenOf v150) fun k151 => bs (decide ((x13 : Int) < (k151 : Int))) (J45_11 B cl n x0 x5 x7 x9 x13 H Q) (J45_13 B cl n x0 x5 x7 x9 H Q)))) : L45_12 B cl n x0 x5 x7 x9 x13 H Q := ALoop.round2 hcl rfl (Eq.mpr (by simp only [ap,aop_w]; kernel_rfl) h)
theorem J45_26_in {x0 : List UInt8} {x1 : Int} {x5 x7 x9 : AV} (h :
 (ap B H (oF 2 x5) fun v152 _ => ob (peek B H v152) fun c153 => pInt .i64 c153 fun n154 => cl 33 [.int .i64 n154] H fun v155 H156 => pBool v155 fun b157 => bs b157 (J45_25 B cl n x0 x1 x5 x7 x9 H156 Q) (ob (peekN B H156 9 x9) fun c158 => (ap B H156 (oS 9 x7 (.agg c158)) fun v159 H160 => ob (peekN B H160 9 x7) fun c161 => tidyK n Q (.tuple [.str x0,.agg c161,.bool false]) H160)))) : J45_26 B cl n x0 x1 x5 x7 x9 H Q := kp (by simp only [ap,aop_w]; kernel_rfl) h
theorem J45_36_in {x0 : List UInt8} {x5 x7 x9 : AV} (h :
 (ap B H (oF 2 x5) fun v162 _ => ob (peek B H v162) fun c163 => pInt .i64 c163 fun n164 => (ap B H (oF 2 x9) fun v165 _ => (ap B H (oS 1 v165 (.int .i64 n164)) fun v166 H167 => J45_35 B cl n x0 x5 x7 x9 H167 Q)))) : J45_36 B cl n x0 x5 x7 x9 H Q := kp (by simp only [ap,aop_w]; kernel_rfl) h
theorem J45_2_in {x0 x5 x7 x9 : AV} {x10 : Int} {x11 x12 : AV} (h :
 pBool x12 fun b168 => bs b168 (J45_3 B cl n x11 x5 x7 x9 x10 H Q) (ob (peekN B H 9 x9) fun c169 => (ap B H (oS 9 x7 (.agg c169)) fun v170 H171 => ob (peekN B H171 9 x7) fun c172 => tidyK n Q (.tuple [x0,.agg c172,.bool false]) H171))) : J45_2 B cl n x0 x5 x7 x9 x10 x11 x12 H Q := kp (by simp only [ap,aop_w]; kernel_rfl) h
theorem J45_11_in {x0 x5 x7 x9 : AV} {x13 : Int} (h :
 (ap B H (oF 5 x5) fun v173 _ => (ap B H (oF 1 v173) fun v174 _ => ob (peek B H v174) fun c175 => pLive c175 fun v176 => (ap B H (oI 3 v176 (.int .i64 x13)) fun v177 _ => ob (peekN B H 3 v177) fun c178 => cl 75 [x0,.agg c178] H fun v179 H180 => pLive v179 fun v181 => (ap B H180 (oX 0 (some .str) v181) fun v182 _ => (ap B H180 (oX 1 (some .bool) v181) fun v183 _ => J45_9 B cl n x0 x5 x7 x9 x13 v182 v183 H180 Q)))))) : J45_11 B cl n x0 x5 x7 x9 x13 H Q := kp (by simp only [ap,aop_w]; kernel_rfl) h
theorem J45_13_in {x0 x5 x7 x9 : AV} (h :
 ob (peekN B H 9 x9) fun c184 => (ap B H (oF 5 x5) fun v185 _ => (ap B H (oF 1 v185) fun v186 _ => ob (peek B H v186) fun c187 => pLive c187 fun v188 => ob (lenOf v188) fun k189 => ibinK .leq .i64 (k189 : Int) 512 fun v190 => (ap B H (oS 9 x7 (.agg c184)) fun v191 H192 => (ibinK .leq .i64 (k189 : Int) 512 fun v199 => (v199 : AV) = v190) ∧ ((ob (lenOf v188) fun k198 => (.int .i64 (k198 : Int) : AV) = .int .i64 (k189 : Int)) ∧ ((ob (peek B H192 v186) fun c196 => pLive c196 fun v197 => (v197 : AV) = v188) ∧ (((ap B H192 (oF 1 v185) fun v195 _ => (v195 : AV) = v186)) ∧ (((ap B H192 (oF 5 x5) fun v194 _ => (v194 : AV) = v185)) ∧ (ob (peekN B H192 9 x7) fun c193 => tidyK n Q (.tuple [x0,.agg c193,v190]) H192))))))))) : J45_13 B cl n x0 x5 x7 x9 H Q := kp (by simp only [ap,aop_w]; kernel_rfl) h
theorem J45_25_in {x0 : List UInt8} {x1 : Int} {x5 x7 x9 : AV} (h :
 (ap B H (oF 2 x5) fun v200 _ => ob (peek B H v200) fun c201 => pInt .i64 c201 fun n202 => (ap B H (oF 7 x5) fun v203 _ => ob (peek B H v203) fun c204 => pLive c204 fun v205 => (ap B H (.toStr (.const v205)) fun v206 _ => cl 34 [.str x0,.int .i64 n202] H fun v207 H208 => pStr v207 fun s209 => ((ap B H208 (.toStr (.const v205)) fun v216 _ => (v216 : AV) = v206)) ∧ ((ob (peek B H208 v203) fun c214 => pLive c214 fun v215 => (v215 : AV) = v205) ∧ (((ap B H208 (oF 7 x5) fun v213 _ => (v213 : AV) = v203)) ∧ (cl 32 [.str s209,v206] H208 fun v210 H211 => pStr v210 fun s212 => J45_24 B cl n s212 x1 x5 x7 x9 H211 Q))))))) : J45_25 B cl n x0 x1 x5 x7 x9 H Q := kp (by simp only [ap,aop_w]; kernel_rfl) h
theorem J45_35_in {x0 : List UInt8} {x5 x7 x9 : AV} (h :
 (ap B H (oF 1 x5) fun v217 _ => ob (peek B H v217) fun c218 => pInt .i64 c218 fun n219 => cl 33 [.int .i64 n219] H fun v220 H221 => pBool v220 fun b222 => bs b222 ((ap B H221 (oF 2 x5) fun v223 _ => ob (peek B H221 v223) fun c224 => pInt .i64 c224 fun n225 => cl 33 [.int .i64 n225] H221 fun v226 H227 => tyK .bool v226 fun v228 => (ap B H227 (.not (.const v228)) fun v229 _ => J45_33 B cl n x0 x5 x7 x9 v229 H227 Q))) (J45_33 B cl n x0 x5 x7 x9 (.bool true) H221 Q))) : J45_35 B cl n x0 x5 x7 x9 H Q := kp (by simp only [ap,aop_w]; kernel_rfl) h
theorem J45_3_in {x0 x5 x7 x9 : AV} {x10 : Int} (h :
 L45_5 B cl n x0 x5 x7 x9 (IntKind.i64.wrap (x10 + 1)) H Q) : J45_3 B cl n x0 x5 x7 x9 x10 H Q := kp (by kernel_rfl) h
theorem J45_9_in {x0 x5 x7 x9 : AV} {x13 : Int} {x14 x15 : AV} (h :
 pBool x15 fun b230 => bs b230 (J45_10 B cl n x14 x5 x7 x9 x13 H Q) (ob (peekN B H 9 x9) fun c231 => (ap B H (oS 9 x7 (.agg c231)) fun v232 H233 => ob (peekN B H233 9 x7) fun c234 => tidyK n Q (.tuple [x0,.agg c234,.bool false]) H233))) : J45_9 B cl n x0 x5 x7 x9 x13 x14 x15 H Q := kp (by simp only [ap,aop_w]; kernel_rfl) h
theorem J45_24_in {x0 : List UInt8} {x1 : Int} {x5 x7 x9 : AV} (h :
 bs ((x1 : Int) == 4) (ob (peekN B H 9 x9) fun c235 => (ap B H (oS 9 x7 (.agg c235)) fun v236 H237 => ob (peekN B H237 9 x7) fun c238 => tidyK n Q (.tuple [.str x0,.agg c238,.bool true]) H237)) (J45_23 B cl n x0 x5 x7 x9 H Q)) : J45_24 B cl n x0 x1 x5 x7 x9 H Q := kp (by simp only [ap,aop_w]; kernel_rfl) h
theorem J45_33_in {x0 : List UInt8} {x5 x7 x9 x218 : AV} (h :
 pBool x218 fun b239 => (if b239 = true then ob (peekN B H 9 x9) fun c240 => (ap B H (oS 9 x7 (.agg c240)) fun v241 H242 => ob (peekN B H242 9 x7) fun c243 => tidyK n Q (.tuple [.str x0,.agg c243,.bool false]) H242) else J45_34 B cl n x0 x5 x7 x9 H Q)) : J45_33 B cl n x0 x5 x7 x9 x218 H Q := kp (by simp only [ap,aop_w]; kernel_rfl) h
theorem J45_10_in {x0 x5 x7 x9 : AV} {x13 : Int} (h :
 L45_12 B cl n x0 x5 x7 x9 (IntKind.i64.wrap (x13 + 1)) H Q) : J45_10 B cl n x0 x5 x7 x9 x13 H Q := kp (by kernel_rfl) h
theorem J45_23_in {x0 : List UInt8} {x5 x7 x9 : AV} (h :
 (ap B H (oF 8 x5) fun v244 _ => ob (peek B H v244) fun c245 => pLive c245 fun v246 => (ap B H (oF 8 x9) fun v247 _ => (ap B H (oS 1 v247 v246) fun v248 H249 => J45_22 B cl n x0 x5 x7 x9 H249 Q)))) : J45_23 B cl n x0 x5 x7 x9 H Q := kp (by simp only [ap,aop_w]; kernel_rfl) h
theorem J45_34_in {x0 : List UInt8} {x5 x7 x9 : AV} (h :
 (ap B H (oF 1 x5) fun v250 _ => ob (peek B H v250) fun c251 => pInt .i64 c251 fun n252 => (ap B H (oF 2 x5) fun v253 _ => ob (peek B H v253) fun c254 => pInt .i64 c254 fun n255 => ob (peekN B H 9 x9) fun c256 => cl 34 [.str x0,.int .i64 n252] H fun v257 H258 => pStr v257 fun s259 => (ob (peekN B H258 9 x9) fun c270 => (.agg c270 : AV) = .agg c256) ∧ ((ob (peek B H258 v253) fun c268 => pInt .i64 c268 fun n269 => (.int .i64 n269 : AV) = .int .i64 n255) ∧ (((ap B H258 (oF 2 x5) fun v267 _ => (v267 : AV) = v253)) ∧ (cl 34 [.str s259,.int .i64 n255] H258 fun v260 H261 => pStr v260 fun s262 => (ob (peekN B H261 9 x9) fun c266 => (.agg c266 : AV) = .agg c256) ∧ ((ap B H261 (oS 9 x7 (.agg c256)) fun v263 H264 => ob (peekN B H264 9 x7) fun c265 => tidyK n Q (.tuple [.str s262,.agg c265,.bool true]) H264)))))))) : J45_34 B cl n x0 x5 x7 x9 H Q := kp (by simp only [ap,aop_w]; kernel_rfl) h
theorem J45_22_in {x0 : List UInt8} {x5 x7 x9 : AV} (h :
 (ap B H (oF 8 x5) fun v271 _ => ob (peek B H v271) fun c272 => pLive c272 fun v273 => ob (lenOf v273) fun k274 => cl 34 [.str x0,.int .i64 (k274 : Int)] H fun v275 H276 => pStr v275 fun s277 => J45_21 B cl n s277 x5 x7 x9 H276 Q)) : J45_22 B cl n x0 x5 x7 x9 H Q := kp (by simp only [ap,aop_w]; kernel_rfl) h
theorem J45_21_in {x0 : List UInt8} {x5 x7 x9 : AV} (h :
 L45_19 B cl n (.str x0) x5 x7 x9 0 H Q) : J45_21 B cl n x0 x5 x7 x9 H Q := kp (by kernel_rfl) h
theorem L45_19_in {x0 x5 x7 x9 : AV} {x16 : Int} (hcl : CLe cl cl) (h :
 (ap B H (oF 8 x5) fun v278 _ => ob (peek B H v278) fun c279 => pLive c279 fun v280 => ob (lenOf v280) fun k281 => bs (decide ((x16 : Int) < (k281 : Int))) (J45_18 B cl n x0 x5 x7 x9 x16 H Q) (J45_20 B cl n x0 x5 x7 x9 H Q))) : L45_19 B cl n x0 x5 x7 x9 x16 H Q := ALoop.round2 hcl rfl (Eq.mpr (by simp only [ap,aop_w]; kernel_rfl) h)
theorem J45_18_in {x0 x5 x7 x9 : AV} {x16 : Int} (h :
 (ap B H (oF 8 x5) fun v282 _ => ob (peek B H v282) fun c283 => pLive c283 fun v284 => (ap B H (oI 1 v284 (.int .i64 x16)) fun v285 _ => ob (peek B H v285) fun c286 => pLive c286 fun v287 => cl 31 [x0,v287] H fun v288 H289 => pLive v288 fun v290 => (ap B H289 (oX 0 (some .str) v290) fun v291 _ => (ap B H289 (oX 1 (some .bool) v290) fun v292 _ => J45_17 B cl n x0 x5 x7 x9 x16 v291 v292 H289 Q))))) : J45_18 B cl n x0 x5 x7 x9 x16 H Q := kp (by simp only [ap,aop_w]; kernel_rfl) h
theorem J45_20_in {x0 x5 x7 x9 : AV} (h :
 ob (peekN B H 9 x9) fun c293 => (ap B H (oF 8 x5) fun v294 _ => ob (peek B H v294) fun c295 => pLive c295 fun v296 => ob (lenOf v296) fun k297 => ibinK .leq .i64 (k297 : Int) 512 fun v298 => (ap B H (oS 9 x7 (.agg c293)) fun v299 H300 => (ibinK .leq .i64 (k297 : Int) 512 fun v306 => (v306 : AV) = v298) ∧ ((ob (lenOf v296) fun k305 => (.int .i64 (k305 : Int) : AV) = .int .i64 (k297 : Int)) ∧ ((ob (peek B H300 v294) fun c303 => pLive c303 fun v304 => (v304 : AV) = v296) ∧ (((ap B H300 (oF 8 x5) fun v302 _ => (v302 : AV) = v294)) ∧ (ob (peekN B H300 9 x7) fun c301 => tidyK n Q (.tuple [x0,.agg c301,v298]) H300))))))) : J45_20 B cl n x0 x5 x7 x9 H Q := kp (by simp only [ap,aop_w]; kernel_rfl) h
theorem J45_17_in {x0 x5 x7 x9 : AV} {x16 : Int} {x17 x18 : AV} (h :
 pBool x18 fun b307 => bs b307 ((ap B H (oF 8 x5) fun v308 _ => ob (peek B H v308) fun c309 => pLive c309 fun v310 => (ap B H (oI 1 v310 (.int .i64 x16)) fun v311 _ => ob (peek B H v311) fun c312 => pLive c312 fun v313 => ob (lenOf v313) fun k314 => ibinK .gtr .i64 (k314 : Int) 64 fun v315 => J45_16 B cl n x0 x5 x7 x9 x16 x17 v315 H Q))) (J45_16 B cl n x0 x5 x7 x9 x16 x17 (.bool true) H Q)) : J45_17 B cl n x0 x5 x7 x9 x16 x17 x18 H Q := kp (by simp only [ap,aop_w]; kernel_rfl) h
theorem J45_16_in {x0 x5 x7 x9 : AV} {x16 : Int} {x17 x193 : AV} (h :
 pBool x193 fun b316 => (if b316 = true then ob (peekN B H 9 x9) fun c317 => (ap B H (oS 9 x7 (.agg c317)) fun v318 H319 => ob (peekN B H319 9 x7) fun c320 => tidyK n Q (.tuple [x0,.agg c320,.bool false]) H319) else L45_19 B cl n x17 x5 x7 x9 (IntKind.i64.wrap (x16 + 1)) H Q)) : J45_16 B cl n x0 x5 x7 x9 x16 x17 x193 H Q := kp (by simp only [ap,aop_w]; kernel_rfl) h
theorem f45_in {x0 : List UInt8} {x1 : Int} {x2 : AV} (h : fi B H [.str x0,.int .i64 x1,x2] fun n cl =>
 (ap B H (.box 9 (.const x2)) fun v1 H2 => (ap B H2 (.alloc [(.int .i64 0),(.int .i64 0),(.int .i64 0),.nils,.nils,.nils,.nils,.nils,.nils]) fun v3 H4 => J45_39 B cl n x0 x1 v1 v3 H4 Q))) : Cl B 45 [.str x0,.int .i64 x1,x2] H Q := fin rfl h (by simp only [ap,aop_w]; kernel_rfl)
theorem J46_5_in {x2 x3 : AV} (h :
 (ap B H (oF 0 x2) fun v5 _ => ob (peek B H v5) fun c6 => pLive c6 fun v7 => (ap B H (.toStr (.const v7)) fun v8 _ => (ap B H (oF 0 x3) fun v9 _ => ob (peek B H v9) fun c10 => pLive c10 fun v11 => (ap B H (.toStr (.const v11)) fun v12 _ => pStr v8 fun s13 => pStr v12 fun s14 => bs (!(s13 == s14)) (J46_0 B cl n x2 x3 (.bool true) H Q) ((ap B H (oF 1 x2) fun v15 _ => ob (peek B H v15) fun c16 => pLive c16 fun v17 => ob (lenOf v17) fun k18 => (ap B H (oF 1 x3) fun v19 _ => ob (peek B H v19) fun c20 => pLive c20 fun v21 => ob (lenOf v21) fun k22 => ibinK .neq .i64 (k18 : Int) (k22 : Int) fun v23 => J46_0 B cl n x2 x3 v23 H Q)))))))) : J46_5 B cl n x2 x3 H Q := kp (by kernel_rfl) h
theorem J46_0_in {x2 x3 x22 : AV} (h :
 pBool x22 fun b24 => (if b24 = true then tidyK n Q (.bool false) H else L46_3 B cl n x2 x3 0 H Q)) : J46_0 B cl n x2 x3 x22 H Q := kp (by kernel_rfl) h
theorem L46_3_in {x2 x3 : AV} {x5 : Int} (hcl : CLe cl cl) (h :
 (ap B H (oF 1 x2) fun v25 _ => ob (peek B H v25) fun c26 => pLive c26 fun v27 => ob (lenOf v27) fun k28 => bs (decide ((x5 : Int) < (k28 : Int))) (J46_2 B cl n x2 x3 x5 H Q) (J46_4 B cl n H Q))) : L46_3 B cl n x2 x3 x5 H Q := ALoop.round2 hcl rfl (Eq.mpr (by kernel_rfl) h)
theorem J46_2_in {x2 x3 : AV} {x5 : Int} (h :
 (ap B H (oF 1 x2) fun v29 _ => ob (peek B H v29) fun c30 => pLive c30 fun v31 => (ap B H (oI 7 v31 (.int .i64 x5)) fun v32 _ => ob (peekN B H 7 v32) fun c33 => (ap B H (oF 1 x3) fun v34 _ => ob (peek B H v34) fun c35 => pLive c35 fun v36 => (ap B H (oI 7 v36 (.int .i64 x5)) fun v37 _ => ob (peekN B H 7 v37) fun c38 => cl 76 [.agg c33,.agg c38] H fun v39 H40 => tyK .bool v39 fun v41 => J46_1 B cl n x2 x3 x5 v41 H40 Q))))) : J46_2 B cl n x2 x3 x5 H Q := kp (by kernel_rfl) h
theorem J46_4_in (h :
 tidyK n Q (.bool true) H) : J46_4 B cl n  H Q := kp (by kernel_rfl) h
theorem J46_1_in {x2 x3 : AV} {x5 : Int} {x6 : AV} (h :
 pBool x6 fun b42 => bs b42 (L46_3 B cl n x2 x3 (IntKind.i64.wrap (x5 + 1)) H Q) (tidyK n Q (.bool false) H)) : J46_1 B cl n x2 x3 x5 x6 H Q := kp (by kernel_rfl) h
theorem f46_in {x0 x1 : AV} (h : fi B H [x0,x1] fun n cl =>
 (ap B H (.box 2 (.const x0)) fun v1 H2 => (ap B H2 (.box 2 (.const x1)) fun v3 H4 => J46_5 B cl n v1 v3 H4 Q))) : Cl B 46 [x0,x1] H Q := fin rfl h (by kernel_rfl)
end Go.Am
