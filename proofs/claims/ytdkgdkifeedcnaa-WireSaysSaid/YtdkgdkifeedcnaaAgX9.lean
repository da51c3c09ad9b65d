/- What the functions of the seat do, from label to label. -/
import Derived.Test.YtdkgdkifeedcnaaAf
namespace Go.Am
open Go
set_option maxRecDepth 100000
def J99_3 (B : Base) (cl : CallK) (n : Nat) (x0 : AV) (H : Heap) (Q : AV → Heap → Prop) : Prop := awC B cl (ALoop n) c99_3 (ev 40 [(0, x0)]) H (fnQ B a99 (tidyK n Q))
def J99_2 (B : Base) (cl : CallK) (n : Nat) (x0 x3 x4 x5 : AV) (H : Heap) (Q : AV → Heap → Prop) : Prop := awC B cl (ALoop n) c99_2 (ev 40 [(0, x0), (3, x3), (4, x4), (5, x5)]) H (fnQ B a99 (tidyK n Q))
def J99_1 (B : Base) (cl : CallK) (n : Nat) (x0 x3 x5 : AV) (H : Heap) (Q : AV → Heap → Prop) : Prop := awC B cl (ALoop n) c99_1 (ev 40 [(0, x0), (3, x3), (5, x5)]) H (fnQ B a99 (tidyK n Q))
def J99_0 (B : Base) (cl : CallK) (n : Nat) (x3 : AV) (H : Heap) (Q : AV → Heap → Prop) : Prop := awC B cl (ALoop n) c99_0 (ev 40 [(3, x3)]) H (fnQ B a99 (tidyK n Q))
def k101_0 (B : Base) (cl : CallK) (n : Nat) (Q : AV → Heap → Prop) : KQ := (AExit.thenK (fun e h => awC B cl (ALoop n) c101_1 e h (fnQ B a101 (tidyK n Q))) (fnQ B a101 (tidyK n Q)))
def k101_1 (B : Base) (cl : CallK) (n : Nat) (Q : AV → Heap → Prop) : KQ := (AExit.blockK 0 (k101_0 B cl n Q))
def L101_0 (B : Base) (cl : CallK) (n : Nat) (x0 x2 x7 : AV) (x10 x11 : Int) (H : Heap) (Q : AV → Heap → Prop) : Prop := awC B cl (ALoop n) c101_0 (ev 24 [(0, x0), (2, x2), (7, x7), (10, .int .i64 x10), (11, .int .i64 x11)]) H (k101_1 B cl n Q)
def J101_1 (B : Base) (cl : CallK) (n : Nat) (x7 : AV) (H : Heap) (Q : AV → Heap → Prop) : Prop := awC B cl (ALoop n) c101_1 (ev 24 [(7, x7)]) H (fnQ B a101 (tidyK n Q))
def k103_0 (B : Base) (cl : CallK) (n : Nat) (Q : AV → Heap → Prop) : KQ := (AExit.thenK (fun e h => awC B cl (ALoop n) c103_1 e h (fnQ B a103 (tidyK n Q))) (fnQ B a103 (tidyK n Q)))
def k103_1 (B : Base) (cl : CallK) (n : Nat) (Q : AV → Heap → Prop) : KQ := (AExit.blockK 0 (k103_0 B cl n Q))
def L103_0 (B : Base) (cl : CallK) (n : Nat) (x0 x2 x7 : AV) (x10 x11 : Int) (H : Heap) (Q : AV → Heap → Prop) : Prop := awC B cl (ALoop n) c103_0 (ev 24 [(0, x0), (2, x2), (7, x7), (10, .int .i64 x10), (11, .int .i64 x11)]) H (k103_1 B cl n Q)
def J103_1 (B : Base) (cl : CallK) (n : Nat) (x7 : AV) (H : Heap) (Q : AV → Heap → Prop) : Prop := awC B cl (ALoop n) c103_1 (ev 24 [(7, x7)]) H (fnQ B a103 (tidyK n Q))
end Go.Am
