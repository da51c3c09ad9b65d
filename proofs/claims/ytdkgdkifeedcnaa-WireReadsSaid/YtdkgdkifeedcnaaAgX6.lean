/- What the functions of the seat do,from label to label. -/
import Derived.Test.YtdkgdkifeedcnaaAf
namespace Go.Am
open Go
set_option maxRecDepth 100000
variable (B : Base) (cl : CallK) (n : Nat)
def k74_0 (Q : Po) : KQ := kt B cl n a74 c74_4 Q
def k75_0 (Q : Po) : KQ := kt B cl n a75 c75_6 Q
def k75_1 (Q : Po) : KQ := kt B cl n a75 c75_4 Q
def k75_2 (Q : Po) : KQ := (AExit.blockK 0 (k75_1 B cl n Q))
def k75_3 (Q : Po) : KQ := (AExit.thenK (fun e h => awC B cl (ALoop n) c75_3 e h (k75_2 B cl n Q)) (k75_2 B cl n Q))
def k77_0 (Q : Po) : KQ := (AExit.thenK (fun e h => awC B cl (ALoop n) (.seq (.seq (.ops [⟨(some 5),none,(.op (.mov (.const (.int .i64 0))))⟩]) (.block 0 c77_3)) c77_4) e h (fnQ B a77 (tidyK n Q))) (fnQ B a77 (tidyK n Q)))
def k77_1 (Q : Po) : KQ := kt B cl n a77 c77_4 Q
def k77_2 (Q : Po) : KQ := (AExit.blockK 0 (k77_1 B cl n Q))
def k77_3 (Q : Po) : KQ := (AExit.thenK (fun e h => awC B cl (ALoop n) c77_3 e h (k77_2 B cl n Q)) (k77_2 B cl n Q))
def k77_4 (Q : Po) : KQ := (AExit.thenK (fun e h => awC B cl (ALoop n) (.ops [⟨(some 33),none,(.op (.mov (.tmp 5)))⟩,⟨(some 34),none,(.op (.ibin .add .i64 (.tmp 33) (.const (.int .i64 1))))⟩,⟨(some 5),none,(.op (.mov (.tmp 34)))⟩]) e h (k77_3 B cl n Q)) (k77_3 B cl n Q))
def k77_5 (Q : Po) : KQ := (AExit.blockK 1 (k77_4 B cl n Q))
def k78_0 (Q : Po) : KQ := kt B cl n a78 c78_7 Q
def k78_1 (Q : Po) : KQ := kt B cl n a78 c78_2 Q
def k79_0 (Q : Po) : KQ := kt B cl n a79 c79_1 Q
def k80_0 (Q : Po) : KQ := kt B cl n a80 c80_2 Q
def k81_0 (Q : Po) : KQ := kt B cl n a81 c81_5 Q
def k81_1 (Q : Po) : KQ := (AExit.blockK 0 (k81_0 B cl n Q))
def k81_2 (Q : Po) : KQ := (AExit.thenK (fun e h => awC B cl (ALoop n) c81_4 e h (k81_1 B cl n Q)) (k81_1 B cl n Q))
def k81_3 (Q : Po) : KQ := (AExit.thenK (fun e h => awC B cl (ALoop n) (.ops [⟨(some 46),none,(.op (.ibin .add .i64 (.tmp 14) (.const (.int .i64 1))))⟩,⟨(some 14),none,(.op (.mov (.tmp 46)))⟩]) e h (k81_2 B cl n Q)) (k81_2 B cl n Q))
def k81_4 (Q : Po) : KQ := (AExit.blockK 1 (k81_3 B cl n Q))
def k81_5 (Q : Po) : KQ := (AExit.thenK (fun e h => awC B cl (ALoop n) (.seq (.ops [⟨(some 33),none,(.op (.mov (.tmp 5)))⟩,⟨(some 34),none,(.op (.mov (.tmp 7)))⟩,⟨(some 35),none,(.op (.ibin .and .u8 (.tmp 34) (.const (.int .u8 127))))⟩,⟨(some 36),none,(.op (.convI .u8 .u64 (.tmp 35)))⟩,⟨(some 37),none,(.op (.mov (.tmp 6)))⟩,⟨(some 38),none,(.op (.ibin .mul .i64 (.const (.int .i64 7)) (.tmp 37)))⟩,⟨(some 39),none,(.op (.shf .shl .u64 (.tmp 36) (.tmp 38)))⟩,⟨(some 40),none,(.op (.ibin .or .u64 (.tmp 33) (.tmp 39)))⟩,⟨(some 5),none,(.op (.mov (.tmp 40)))⟩]) c81_1) e h (k81_4 B cl n Q)) (k81_4 B cl n Q))
def k83_0 (Q : Po) : KQ := kt B cl n a83 c83_4 Q
def k84_0 (Q : Po) : KQ := kt B cl n a84 c84_1 Q
def J74_5 (x0 : List UInt8) (x3 : AV) (H : Heap) (Q : Po) := jn B cl n a74 c74_5 (ev 69 [(0,.str x0),(3,x3)]) H Q
def J74_1 (x0 : List UInt8) (x3 x14 : AV) (H : Heap) (Q : Po) := jw B cl n c74_1 (ev 69 [(0,.str x0),(3,x3),(14,x14)]) H (k74_0 B cl n Q)
def J74_0 (x3 x6 x7 : AV) (H : Heap) (Q : Po) := jw B cl n c74_0 (ev 69 [(3,x3),(6,x6),(7,x7)]) H (k74_0 B cl n Q)
def J74_4 (x0 : List UInt8) (x3 : AV) (H : Heap) (Q : Po) := jn B cl n a74 c74_4 (ev 69 [(0,.str x0),(3,x3)]) H Q
def J74_3 (x3 x8 x9 : AV) (H : Heap) (Q : Po) := jn B cl n a74 c74_3 (ev 69 [(3,x3),(8,x8),(9,x9)]) H Q
def J74_2 (x9 x10 x11 : AV) (H : Heap) (Q : Po) := jn B cl n a74 c74_2 (ev 69 [(9,x9),(10,x10),(11,x11)]) H Q
def J75_7 (x0 : List UInt8) (x3 : AV) (H : Heap) (Q : Po) := jn B cl n a75 c75_7 (ev 47 [(0,.str x0),(3,x3)]) H Q
def J75_0 (x0 : List UInt8) (x3 x16 : AV) (H : Heap) (Q : Po) := jw B cl n c75_0 (ev 47 [(0,.str x0),(3,x3),(16,x16)]) H (k75_0 B cl n Q)
def J75_6 (x0 : List UInt8) (x3 : AV) (H : Heap) (Q : Po) := jn B cl n a75 c75_6 (ev 47 [(0,.str x0),(3,x3)]) H Q
def J75_5 (x0 : List UInt8) (x3 : AV) (H : Heap) (Q : Po) := jn B cl n a75 c75_5 (ev 47 [(0,.str x0),(3,x3)]) H Q
def L75_3 (x0 : List UInt8) (x3 : AV) (x6 : Int) (H : Heap) (Q : Po) := jw B cl n c75_3 (ev 47 [(0,.str x0),(3,x3),(6,.int .i64 x6)]) H (k75_2 B cl n Q)
def J75_2 (x0 : List UInt8) (x3 : AV) (x6 : Int) (H : Heap) (Q : Po) := jw B cl n c75_2 (ev 47 [(0,.str x0),(3,x3),(6,.int .i64 x6)]) H (k75_3 B cl n Q)
def J75_4 (x0 : List UInt8) (x3 : AV) (H : Heap) (Q : Po) := jn B cl n a75 c75_4 (ev 47 [(0,.str x0),(3,x3)]) H Q
def J75_1 (x0 : List UInt8) (x3 : AV) (x6 : Int) (H : Heap) (Q : Po) := jw B cl n c75_1 (ev 47 [(0,.str x0),(3,x3),(6,.int .i64 x6)]) H (k75_3 B cl n Q)
def J77_5 (x2 x3 : AV) (H : Heap) (Q : Po) := jn B cl n a77 c77_5 (ev 48 [(2,x2),(3,x3)]) H Q
def J77_0 (x2 x3 x27 : AV) (H : Heap) (Q : Po) := jw B cl n c77_0 (ev 48 [(2,x2),(3,x3),(27,x27)]) H (k77_0 B cl n Q)
def L77_3 (x2 x3 : AV) (x5 : Int) (H : Heap) (Q : Po) := jw B cl n c77_3 (ev 48 [(2,x2),(3,x3),(5,.int .i64 x5)]) H (k77_2 B cl n Q)
def J77_2 (x2 x3 : AV) (x5 : Int) (H : Heap) (Q : Po) := jw B cl n c77_2 (ev 48 [(2,x2),(3,x3),(5,.int .i64 x5)]) H (k77_3 B cl n Q)
def J77_4 (H : Heap) (Q : Po) := jn B cl n a77 c77_4 (ev 48 []) H Q
def J77_1 (x2 x3 : AV) (x5 : Int) (x47 : AV) (H : Heap) (Q : Po) := jw B cl n c77_1 (ev 48 [(2,x2),(3,x3),(5,.int .i64 x5),(47,x47)]) H (k77_5 B cl n Q)
def J78_8 (x0 x2 : AV) (H : Heap) (Q : Po) := jn B cl n a78 c78_8 (ev 54 [(0,x0),(2,x2)]) H Q
def J78_0 (x0 x2 x16 : AV) (H : Heap) (Q : Po) := jw B cl n c78_0 (ev 54 [(0,x0),(2,x2),(16,x16)]) H (k78_0 B cl n Q)
def J78_7 (x0 x2 : AV) (H : Heap) (Q : Po) := jn B cl n a78 c78_7 (ev 54 [(0,x0),(2,x2)]) H Q
def J78_6 (x0 x2 x5 : AV) (H : Heap) (Q : Po) := jn B cl n a78 c78_6 (ev 54 [(0,x0),(2,x2),(5,x5)]) H Q
def J78_5 (x0 x2 x5 : AV) (x6 : Int) (H : Heap) (Q : Po) := jn B cl n a78 c78_5 (ev 54 [(0,x0),(2,x2),(5,x5),(6,.int .u64 x6)]) H Q
def J78_4 (x2 x5 x7 : AV) (H : Heap) (Q : Po) := jn B cl n a78 c78_4 (ev 54 [(2,x2),(5,x5),(7,x7)]) H Q
def J78_3 (x2 x5 x7 : AV) (H : Heap) (Q : Po) := jn B cl n a78 c78_3 (ev 54 [(2,x2),(5,x5),(7,x7)]) H Q
def J78_1 (x2 x5 x7 x47 : AV) (H : Heap) (Q : Po) := jw B cl n c78_1 (ev 54 [(2,x2),(5,x5),(7,x7),(47,x47)]) H (k78_1 B cl n Q)
def J78_2 (x2 x5 x7 : AV) (H : Heap) (Q : Po) := jn B cl n a78 c78_2 (ev 54 [(2,x2),(5,x5),(7,x7)]) H Q
def J79_2 (x0 : AV) (x1 : Int) (x2 : Bool) (H : Heap) (Q : Po) := jn B cl n a79 c79_2 (ev 34 [(0,x0),(1,.int .i64 x1),(2,.bool x2)]) H Q
def J79_0 (x0 : AV) (x1 : Int) (H : Heap) (Q : Po) := jw B cl n c79_0 (ev 34 [(0,x0),(1,.int .i64 x1)]) H (k79_0 B cl n Q)
def J79_1 (x0 : AV) (x1 : Int) (H : Heap) (Q : Po) := jn B cl n a79 c79_1 (ev 34 [(0,x0),(1,.int .i64 x1)]) H Q
def J80_4 (x0 : AV) (H : Heap) (Q : Po) := jn B cl n a80 c80_4 (ev 36 [(0,x0)]) H Q
def J80_3 (x0 x5 x6 x7 : AV) (H : Heap) (Q : Po) := jn B cl n a80 c80_3 (ev 36 [(0,x0),(5,x5),(6,x6),(7,x7)]) H Q
def J80_0 (x0 x5 x6 x25 : AV) (H : Heap) (Q : Po) := jw B cl n c80_0 (ev 36 [(0,x0),(5,x5),(6,x6),(25,x25)]) H (k80_0 B cl n Q)
def J80_2 (x0 x5 x6 : AV) (H : Heap) (Q : Po) := jn B cl n a80 c80_2 (ev 36 [(0,x0),(5,x5),(6,x6)]) H Q
def J80_1 (x0 x6 : AV) (x8 : Int) (H : Heap) (Q : Po) := jn B cl n a80 c80_1 (ev 36 [(0,x0),(6,x6),(8,.int .i64 x8)]) H Q
def J81_7 (x0 : AV) (H : Heap) (Q : Po) := jn B cl n a81 c81_7 (ev 47 [(0,x0)]) H Q
def J81_6 (x0 : AV) (x5 : Int) (H : Heap) (Q : Po) := jn B cl n a81 c81_6 (ev 47 [(0,x0),(5,.int .u64 x5)]) H Q
def L81_4 (x5 : Int) (x12 : AV) (x13 x14 : Int) (H : Heap) (Q : Po) := jw B cl n c81_4 (ev 47 [(5,.int .u64 x5),(12,x12),(13,.int .i64 x13),(14,.int .i64 x14)]) H (k81_1 B cl n Q)
def J81_3 (x5 : Int) (x12 : AV) (x13 x14 : Int) (x15 : AV) (H : Heap) (Q : Po) := jw B cl n c81_3 (ev 47 [(5,.int .u64 x5),(12,x12),(13,.int .i64 x13),(14,.int .i64 x14),(15,x15)]) H (k81_2 B cl n Q)
def J81_2 (x5 x6 x7 : Int) (x12 : AV) (x13 x14 : Int) (H : Heap) (Q : Po) := jw B cl n c81_2 (ev 47 [(5,.int .u64 x5),(6,.int .i64 x6),(7,.int .u8 x7),(12,x12),(13,.int .i64 x13),(14,.int .i64 x14)]) H (k81_4 B cl n Q)
def J81_5 (H : Heap) (Q : Po) := jn B cl n a81 c81_5 (ev 47 []) H Q
def J81_0 (x5 x6 x7 : Int) (x12 : AV) (x13 x14 : Int) (x32 : AV) (H : Heap) (Q : Po) := jw B cl n c81_0 (ev 47 [(5,.int .u64 x5),(6,.int .i64 x6),(7,.int .u8 x7),(12,x12),(13,.int .i64 x13),(14,.int .i64 x14),(32,x32)]) H (k81_5 B cl n Q)
def J81_1 (x5 x6 x7 : Int) (x12 : AV) (x13 x14 : Int) (H : Heap) (Q : Po) := jw B cl n c81_1 (ev 47 [(5,.int .u64 x5),(6,.int .i64 x6),(7,.int .u8 x7),(12,x12),(13,.int .i64 x13),(14,.int .i64 x14)]) H (k81_4 B cl n Q)
def J83_13 (x0 : List UInt8) (x2 : AV) (H : Heap) (Q : Po) := jn B cl n a83 c83_13 (ev 88 [(0,.str x0),(2,x2)]) H Q
def J83_12 (x0 : List UInt8) (x2 : AV) (H : Heap) (Q : Po) := jn B cl n a83 c83_12 (ev 88 [(0,.str x0),(2,x2)]) H Q
def J83_11 (x0 : List UInt8) (x2 x5 x6 x7 : AV) (H : Heap) (Q : Po) := jn B cl n a83 c83_11 (ev 88 [(0,.str x0),(2,x2),(5,x5),(6,x6),(7,x7)]) H Q
def J83_10 (x0 : List UInt8) (x2 x5 x6 : AV) (H : Heap) (Q : Po) := jn B cl n a83 c83_10 (ev 88 [(0,.str x0),(2,x2),(5,x5),(6,x6)]) H Q
def J83_9 (x0 : List UInt8) (x2 x5 : AV) (x8 : Int) (H : Heap) (Q : Po) := jn B cl n a83 c83_9 (ev 88 [(0,.str x0),(2,x2),(5,x5),(8,.int .i64 x8)]) H Q
def J83_8 (x0 : List UInt8) (x2 x5 : AV) (x8 : Int) (x9 x10 x11 : AV) (H : Heap) (Q : Po) := jn B cl n a83 c83_8 (ev 88 [(0,.str x0),(2,x2),(5,x5),(8,.int .i64 x8),(9,x9),(10,x10),(11,x11)]) H Q
def J83_7 (x0 : List UInt8) (x2 x5 : AV) (x8 : Int) (x9 x10 : AV) (H : Heap) (Q : Po) := jn B cl n a83 c83_7 (ev 88 [(0,.str x0),(2,x2),(5,x5),(8,.int .i64 x8),(9,x9),(10,x10)]) H Q
def J83_6 (x0 : List UInt8) (x2 x5 : AV) (x8 : Int) (x9 : AV) (H : Heap) (Q : Po) := jn B cl n a83 c83_6 (ev 88 [(0,.str x0),(2,x2),(5,x5),(8,.int .i64 x8),(9,x9)]) H Q
def J83_5 (x0 : List UInt8) (x2 : AV) (x8 : Int) (x12 : AV) (H : Heap) (Q : Po) := jn B cl n a83 c83_5 (ev 88 [(0,.str x0),(2,x2),(8,.int .i64 x8),(12,x12)]) H Q
def J83_2 (x0 : List UInt8) (x2 : AV) (x8 : Int) (x12 x64 : AV) (H : Heap) (Q : Po) := jw B cl n c83_2 (ev 88 [(0,.str x0),(2,x2),(8,.int .i64 x8),(12,x12),(64,x64)]) H (k83_0 B cl n Q)
def J83_1 (x2 : AV) (x8 : Int) (x12 x13 x14 x15 : AV) (H : Heap) (Q : Po) := jw B cl n c83_1 (ev 88 [(2,x2),(8,.int .i64 x8),(12,x12),(13,x13),(14,x14),(15,x15)]) H (k83_0 B cl n Q)
def J83_4 (x2 : AV) (x8 : Int) (x12 : AV) (H : Heap) (Q : Po) := jn B cl n a83 c83_4 (ev 88 [(2,x2),(8,.int .i64 x8),(12,x12)]) H Q
def J83_0 (x2 : AV) (x8 : Int) (x12 x13 x14 : AV) (H : Heap) (Q : Po) := jw B cl n c83_0 (ev 88 [(2,x2),(8,.int .i64 x8),(12,x12),(13,x13),(14,x14)]) H (k83_0 B cl n Q)
def J83_3 (x2 : AV) (x8 : Int) (x12 x16 : AV) (H : Heap) (Q : Po) := jn B cl n a83 c83_3 (ev 88 [(2,x2),(8,.int .i64 x8),(12,x12),(16,x16)]) H Q
def J84_3 (x0 : List UInt8) (H : Heap) (Q : Po) := jn B cl n a84 c84_3 (ev 36 [(0,.str x0)]) H Q
def J84_2 (x0 : List UInt8) (x5 x6 x7 : AV) (H : Heap) (Q : Po) := jn B cl n a84 c84_2 (ev 36 [(0,.str x0),(5,x5),(6,x6),(7,x7)]) H Q
def J84_0 (x0 : List UInt8) (x5 x6 x24 : AV) (H : Heap) (Q : Po) := jw B cl n c84_0 (ev 36 [(0,.str x0),(5,x5),(6,x6),(24,x24)]) H (k84_0 B cl n Q)
def J84_1 (x0 : List UInt8) (x5 x6 : AV) (H : Heap) (Q : Po) := jn B cl n a84 c84_1 (ev 36 [(0,.str x0),(5,x5),(6,x6)]) H Q
variable {B cl n} {H : Heap} {Q : Po}
theorem J74_5_in {x0 : List UInt8} {x3 : AV} (h :
 (ap B H (oF 0 x3) fun v3 _ => ob (peek B H v3) fun c4 => tyK .bool c4 fun v5 => (ap B H (.not (.const v5)) fun v6 _ => J74_1 B cl n x0 x3 v6 H Q))) : J74_5 B cl n x0 x3 H Q := kp (by kernel_rfl) h
theorem J74_1_in {x0 : List UInt8} {x3 x14 : AV} (h :
 pBool x14 fun b7 => (if b7 = true then ob (layParts [(.int .u8 0)] [(0,1,.int .u8 0)]) fun c8 => slK H 1 1 c8 fun v9 H10 => (ap B H10 (.toStr (.const v9)) fun v11 _ => pStr v11 fun s12 => sbinK .add x0 s12 fun v13 => (ap B H10 (oF 1 x3) fun v14 _ => ob (peekN B H10 3 v14) fun c15 => cl 94 [v13,.agg c15] H10 fun v16 H17 => pLive v16 fun v18 => (ap B H17 (oX 0 (some .str) v18) fun v19 _ => (ap B H17 (oX 1 (some .bool) v18) fun v20 _ => J74_0 B cl n x3 v19 v20 H17 Q)))) else J74_4 B cl n x0 x3 H Q)) : J74_1 B cl n x0 x3 x14 H Q := kp (by kernel_rfl) h
theorem J74_0_in {x3 x6 x7 : AV} (h :
 pGuard x7 (fun b21 => bs b21 ((ap B H (oF 4 x3) fun v22 _ => (ap B H (oF 0 v22) fun v23 _ => ob (peek B H v23) fun c24 => pInt .i64 c24 fun n25 => ibinK .eql .i64 n25 0 fun v26 => pGuard v26 (fun b27 => bs b27 ((ap B H (oF 4 x3) fun v28 _ => (ap B H (oF 1 v28) fun v29 _ => ob (peek B H v29) fun c30 => pLive c30 fun v31 => ob (lenOf v31) fun k32 => ibinK .eql .i64 (k32 : Int) 0 fun v33 => pGuard v33 (fun b34 => bs b34 ((ap B H (oF 4 x3) fun v35 _ => (ap B H (oF 2 v35) fun v36 _ => ob (peek B H v36) fun c37 => pLive c37 fun v38 => ob (lenOf v38) fun k39 => ibinK .eql .i64 (k39 : Int) 0 fun v40 => tidyK n Q (.tuple [x6,v40]) H))) (tidyK n Q (.tuple [x6,.bool false]) H)) ((ap B H (.pick (.const (.tuple [])) (.const (.tuple [])) (.const (.bool false))) fun v41 _ => tidyK n Q (.tuple [x6,v41]) H))))) (tidyK n Q (.tuple [x6,.bool false]) H)) ((ap B H (.pick (.const (.tuple [])) (.const (.tuple [])) (.const (.bool false))) fun v42 _ => pGuard v42 (fun b43 => bs b43 ((ap B H (oF 4 x3) fun v44 _ => (ap B H (oF 2 v44) fun v45 _ => ob (peek B H v45) fun c46 => pLive c46 fun v47 => ob (lenOf v47) fun k48 => ibinK .eql .i64 (k48 : Int) 0 fun v49 => tidyK n Q (.tuple [x6,v49]) H))) (tidyK n Q (.tuple [x6,.bool false]) H)) ((ap B H (.pick (.const (.tuple [])) (.const (.tuple [])) (.const (.bool false))) fun v50 _ => tidyK n Q (.tuple [x6,v50]) H))))))) (tidyK n Q (.tuple [x6,.bool false]) H)) ((ap B H (.pick (.const (.tuple [])) (.const (.tuple [])) (.const (.bool false))) fun v51 _ => pGuard v51 (fun b52 => bs b52 ((ap B H (oF 4 x3) fun v53 _ => (ap B H (oF 1 v53) fun v54 _ => ob (peek B H v54) fun c55 => pLive c55 fun v56 => ob (lenOf v56) fun k57 => ibinK .eql .i64 (k57 : Int) 0 fun v58 => pGuard v58 (fun b59 => bs b59 ((ap B H (oF 4 x3) fun v60 _ => (ap B H (oF 2 v60) fun v61 _ => ob (peek B H v61) fun c62 => pLive c62 fun v63 => ob (lenOf v63) fun k64 => ibinK .eql .i64 (k64 : Int) 0 fun v65 => tidyK n Q (.tuple [x6,v65]) H))) (tidyK n Q (.tuple [x6,.bool false]) H)) ((ap B H (.pick (.const (.tuple [])) (.const (.tuple [])) (.const (.bool false))) fun v66 _ => tidyK n Q (.tuple [x6,v66]) H))))) (tidyK n Q (.tuple [x6,.bool false]) H)) ((ap B H (.pick (.const (.tuple [])) (.const (.tuple [])) (.const (.bool false))) fun v67 _ => pGuard v67 (fun b68 => bs b68 ((ap B H (oF 4 x3) fun v69 _ => (ap B H (oF 2 v69) fun v70 _ => ob (peek B H v70) fun c71 => pLive c71 fun v72 => ob (lenOf v72) fun k73 => ibinK .eql .i64 (k73 : Int) 0 fun v74 => tidyK n Q (.tuple [x6,v74]) H))) (tidyK n Q (.tuple [x6,.bool false]) H)) ((ap B H (.pick (.const (.tuple [])) (.const (.tuple [])) (.const (.bool false))) fun v75 _ => tidyK n Q (.tuple [x6,v75]) H))))))) : J74_0 B cl n x3 x6 x7 H Q := kp (by kernel_rfl) h
theorem J74_4_in {x0 : List UInt8} {x3 : AV} (h :
 ob (layParts [(.int .u8 0)] [(0,1,.int .u8 1)]) fun c76 => slK H 1 1 c76 fun v77 H78 => (ap B H78 (.toStr (.const v77)) fun v79 _ => pStr v79 fun s80 => sbinK .add x0 s80 fun v81 => (ap B H78 (oF 1 x3) fun v82 _ => ob (peekN B H78 3 v82) fun c83 => cl 94 [v81,.agg c83] H78 fun v84 H85 => pLive v84 fun v86 => (ap B H85 (oX 0 (some .str) v86) fun v87 _ => (ap B H85 (oX 1 (some .bool) v86) fun v88 _ => J74_3 B cl n x3 v87 v88 H85 Q))))) : J74_4 B cl n x0 x3 H Q := kp (by kernel_rfl) h
theorem J74_3_in {x3 x8 x9 : AV} (h :
 (ap B H (oF 4 x3) fun v89 _ => ob (peekN B H 3 v89) fun c90 => cl 94 [x8,.agg c90] H fun v91 H92 => pLive v91 fun v93 => (ap B H92 (oX 0 (some .str) v93) fun v94 _ => (ap B H92 (oX 1 (some .bool) v93) fun v95 _ => J74_2 B cl n x9 v94 v95 H92 Q)))) : J74_3 B cl n x3 x8 x9 H Q := kp (by kernel_rfl) h
theorem J74_2_in {x9 x10 x11 : AV} (h :
 pGuard x9 (fun b96 => bs b96 (tidyK n Q (.tuple [x10,x11]) H) (tidyK n Q (.tuple [x10,.bool false]) H)) ((ap B H (.pick (.const (.tuple [])) (.const (.tuple [])) (.const (.bool false))) fun v97 _ => tidyK n Q (.tuple [x10,v97]) H))) : J74_2 B cl n x9 x10 x11 H Q := kp (by kernel_rfl) h
theorem f74_in {x0 : List UInt8} {x1 : AV} (h : fi B H [.str x0,x1] fun n cl =>
 (ap B H (.box 7 (.const x1)) fun v1 H2 => J74_5 B cl n x0 v1 H2 Q)) : Cl B 74 [.str x0,x1] H Q := fin rfl h (by kernel_rfl)
theorem J75_7_in {x0 : List UInt8} {x3 : AV} (h :
 (ap B H (oF 0 x3) fun v3 _ => ob (peek B H v3) fun c4 => pInt .i64 c4 fun n5 => cl 33 [.int .i64 n5] H fun v6 H7 => pBool v6 fun b8 => bs b8 ((ap B H7 (oF 1 x3) fun v9 _ => ob (peek B H7 v9) fun c10 => pLive c10 fun v11 => ob (lenOf v11) fun k12 => ibinK .gtr .i64 (k12 : Int) 64 fun v13 => J75_0 B cl n x0 x3 v13 H7 Q)) (J75_0 B cl n x0 x3 (.bool true) H7 Q))) : J75_7 B cl n x0 x3 H Q := kp (by kernel_rfl) h
theorem J75_0_in {x0 : List UInt8} {x3 x16 : AV} (h :
 pBool x16 fun b14 => (if b14 = true then tidyK n Q (.tuple [.str x0,.bool false]) H else J75_6 B cl n x0 x3 H Q)) : J75_0 B cl n x0 x3 x16 H Q := kp (by kernel_rfl) h
theorem J75_6_in {x0 : List UInt8} {x3 : AV} (h :
 (ap B H (oF 0 x3) fun v15 _ => ob (peek B H v15) fun c16 => pInt .i64 c16 fun n17 => (ap B H (oF 1 x3) fun v18 _ => ob (peek B H v18) fun c19 => pLive c19 fun v20 => ob (lenOf v20) fun k21 => cl 34 [.str x0,.int .i64 n17] H fun v22 H23 => pStr v22 fun s24 => (ob (lenOf v20) fun k31 => (.int .i64 (k31 : Int) : AV) = .int .i64 (k21 : Int)) ∧ ((ob (peek B H23 v18) fun c29 => pLive c29 fun v30 => (v30 : AV) = v20) ∧ (((ap B H23 (oF 1 x3) fun v28 _ => (v28 : AV) = v18)) ∧ (cl 34 [.str s24,.int .i64 (k21 : Int)] H23 fun v25 H26 => pStr v25 fun s27 => J75_5 B cl n s27 x3 H26 Q)))))) : J75_6 B cl n x0 x3 H Q := kp (by kernel_rfl) h
theorem J75_5_in {x0 : List UInt8} {x3 : AV} (h :
 L75_3 B cl n x0 x3 0 H Q) : J75_5 B cl n x0 x3 H Q := kp (by kernel_rfl) h
theorem L75_3_in {x0 : List UInt8} {x3 : AV} {x6 : Int} (hcl : CLe cl cl) (h :
 (ap B H (oF 1 x3) fun v32 _ => ob (peek B H v32) fun c33 => pLive c33 fun v34 => ob (lenOf v34) fun k35 => bs (decide ((x6 : Int) < (k35 : Int))) (J75_2 B cl n x0 x3 x6 H Q) (J75_4 B cl n x0 x3 H Q))) : L75_3 B cl n x0 x3 x6 H Q := ALoop.round2 hcl rfl (Eq.mpr (by kernel_rfl) h)
theorem J75_2_in {x0 : List UInt8} {x3 : AV} {x6 : Int} (h :
 (ap B H (oF 1 x3) fun v36 _ => ob (peek B H v36) fun c37 => pLive c37 fun v38 => (ap B H (oI 1 v38 (.int .i64 x6)) fun v39 _ => ob (peek B H v39) fun c40 => pLive c40 fun v41 => (ap B H (.toStr (.const v41)) fun v42 _ => cl 32 [.str x0,v42] H fun v43 H44 => pStr v43 fun s45 => J75_1 B cl n s45 x3 x6 H44 Q)))) : J75_2 B cl n x0 x3 x6 H Q := kp (by kernel_rfl) h
theorem J75_4_in {x0 : List UInt8} {x3 : AV} (h :
 (ap B H (oF 2 x3) fun v46 _ => ob (peek B H v46) fun c47 => pLive c47 fun v48 => cl 95 [.str x0,v48] H fun v49 H50 => pLive v49 fun v51 => (ap B H50 (oX 0 (some .str) v51) fun v52 _ => (ap B H50 (oX 1 (some .bool) v51) fun v53 _ => tidyK n Q (.tuple [v52,v53]) H50)))) : J75_4 B cl n x0 x3 H Q := kp (by kernel_rfl) h
theorem J75_1_in {x0 : List UInt8} {x3 : AV} {x6 : Int} (h :
 L75_3 B cl n x0 x3 (IntKind.i64.wrap (x6 + 1)) H Q) : J75_1 B cl n x0 x3 x6 H Q := kp (by kernel_rfl) h
theorem f75_in {x0 : List UInt8} {x1 : AV} (h : fi B H [.str x0,x1] fun n cl =>
 (ap B H (.box 3 (.const x1)) fun v1 H2 => J75_7 B cl n x0 v1 H2 Q)) : Cl B 75 [.str x0,x1] H Q := fin rfl h (by kernel_rfl)
theorem f76_in {x0 x1 : AV} (h : fi B H [x0,x1] fun n cl =>
 (ap B H (.box 7 (.const x0)) fun v1 H2 => (ap B H2 (.box 7 (.const x1)) fun v3 H4 => (ap B H4 (oF 0 v1) fun v5 _ => ob (peek B H4 v5) fun c6 => tyK .bool c6 fun v7 => (ap B H4 (oF 0 v3) fun v8 _ => ob (peek B H4 v8) fun c9 => tyK .bool c9 fun v10 => (ap B H4 (.beq false (.const v7) (.const v10)) fun v11 _ => pGuard v11 (fun b12 => bs b12 ((ap B H4 (oF 1 v1) fun v13 _ => ob (peekN B H4 3 v13) fun c14 => (ap B H4 (oF 1 v3) fun v15 _ => ob (peekN B H4 3 v15) fun c16 => cl 96 [.agg c14,.agg c16] H4 fun v17 H18 => pBool v17 fun b19 => bs b19 ((ap B H18 (oF 4 v1) fun v20 _ => ob (peekN B H18 3 v20) fun c21 => (ap B H18 (oF 4 v3) fun v22 _ => ob (peekN B H18 3 v22) fun c23 => cl 96 [.agg c21,.agg c23] H18 fun v24 H25 => tyK .bool v24 fun v26 => tidyK n Q v26 H25))) (tidyK n Q (.bool false) H18)))) (tidyK n Q (.bool false) H4)) ((ap B H4 (.pick (.const (.tuple [])) (.const (.tuple [])) (.const (.bool false))) fun v27 _ => pGuard v27 (fun b28 => bs b28 ((ap B H4 (oF 4 v1) fun v29 _ => ob (peekN B H4 3 v29) fun c30 => (ap B H4 (oF 4 v3) fun v31 _ => ob (peekN B H4 3 v31) fun c32 => cl 96 [.agg c30,.agg c32] H4 fun v33 H34 => tyK .bool v33 fun v35 => tidyK n Q v35 H34))) (tidyK n Q (.bool false) H4)) ((ap B H4 (.pick (.const (.tuple [])) (.const (.tuple [])) (.const (.bool false))) fun v36 _ => tidyK n Q v36 H4)))))))))) : Cl B 76 [x0,x1] H Q := fin rfl h (by kernel_rfl)
theorem J77_5_in {x2 x3 : AV} (h :
 (ap B H (oF 0 x2) fun v5 _ => ob (peek B H v5) fun c6 => pInt .i64 c6 fun n7 => (ap B H (oF 0 x3) fun v8 _ => ob (peek B H v8) fun c9 => pInt .i64 c9 fun n10 => bs ((n7 : Int) != n10) (J77_0 B cl n x2 x3 (.bool true) H Q) ((ap B H (oF 1 x2) fun v11 _ => ob (peek B H v11) fun c12 => pLive c12 fun v13 => ob (lenOf v13) fun k14 => (ap B H (oF 1 x3) fun v15 _ => ob (peek B H v15) fun c16 => pLive c16 fun v17 => ob (lenOf v17) fun k18 => bs (((k14 : Int) : Int) != (k18 : Int)) (J77_0 B cl n x2 x3 (.bool true) H Q) ((ap B H (oF 2 x2) fun v19 _ => ob (peek B H v19) fun c20 => pLive c20 fun v21 => (ap B H (oF 2 x3) fun v22 _ => ob (peek B H v22) fun c23 => pLive c23 fun v24 => cl 97 [v21,v24] H fun v25 H26 => tyK .bool v25 fun v27 => (ap B H26 (.not (.const v27)) fun v28 _ => J77_0 B cl n x2 x3 v28 H26 Q)))))))))) : J77_5 B cl n x2 x3 H Q := kp (by kernel_rfl) h
theorem J77_0_in {x2 x3 x27 : AV} (h :
 pBool x27 fun b29 => (if b29 = true then tidyK n Q (.bool false) H else L77_3 B cl n x2 x3 0 H Q)) : J77_0 B cl n x2 x3 x27 H Q := kp (by kernel_rfl) h
theorem L77_3_in {x2 x3 : AV} {x5 : Int} (hcl : CLe cl cl) (h :
 (ap B H (oF 1 x2) fun v30 _ => ob (peek B H v30) fun c31 => pLive c31 fun v32 => ob (lenOf v32) fun k33 => bs (decide ((x5 : Int) < (k33 : Int))) (J77_2 B cl n x2 x3 x5 H Q) (J77_4 B cl n H Q))) : L77_3 B cl n x2 x3 x5 H Q := ALoop.round2 hcl rfl (Eq.mpr (by kernel_rfl) h)
theorem J77_2_in {x2 x3 : AV} {x5 : Int} (h :
 (ap B H (oF 1 x2) fun v34 _ => ob (peek B H v34) fun c35 => pLive c35 fun v36 => (ap B H (oI 1 v36 (.int .i64 x5)) fun v37 _ => ob (peek B H v37) fun c38 => pLive c38 fun v39 => (ap B H (.toStr (.const v39)) fun v40 _ => (ap B H (oF 1 x3) fun v41 _ => ob (peek B H v41) fun c42 => pLive c42 fun v43 => (ap B H (oI 1 v43 (.int .i64 x5)) fun v44 _ => ob (peek B H v44) fun c45 => pLive c45 fun v46 => (ap B H (.toStr (.const v46)) fun v47 _ => pStr v40 fun s48 => pStr v47 fun s49 => sbinK .neq s48 s49 fun v50 => J77_1 B cl n x2 x3 x5 v50 H Q))))))) : J77_2 B cl n x2 x3 x5 H Q := kp (by kernel_rfl) h
theorem J77_4_in (h :
 tidyK n Q (.bool true) H) : J77_4 B cl n  H Q := kp (by kernel_rfl) h
theorem J77_1_in {x2 x3 : AV} {x5 : Int} {x47 : AV} (h :
 pBool x47 fun b51 => (if b51 = true then tidyK n Q (.bool false) H else L77_3 B cl n x2 x3 (IntKind.i64.wrap (x5 + 1)) H Q)) : J77_1 B cl n x2 x3 x5 x47 H Q := kp (by kernel_rfl) h
theorem f77_in {x0 x1 : AV} (h : fi B H [x0,x1] fun n cl =>
 (ap B H (.box 3 (.const x0)) fun v1 H2 => (ap B H2 (.box 3 (.const x1)) fun v3 H4 => J77_5 B cl n v1 v3 H4 Q))) : Cl B 77 [x0,x1] H Q := fin rfl h (by kernel_rfl)
theorem J78_8_in {x0 x2 : AV} (h :
 ob (lenOf x0) fun k3 => bs (((k3 : Int) : Int) == 0) (J78_0 B cl n x0 x2 (.bool true) H Q) ((ap B H (oI 1 x0 (.int .i64 0)) fun v4 _ => ob (peek B H v4) fun c5 => pInt .u8 c5 fun n6 => ibinK .gtr .u8 n6 1 fun v7 => J78_0 B cl n x0 x2 v7 H Q))) : J78_8 B cl n x0 x2 H Q := kp (by kernel_rfl) h
theorem J78_0_in {x0 x2 x16 : AV} (h :
 pBool x16 fun b8 => (if b8 = true then ob (layParts [(.str []),(.str []),(.bool false),(.int .i64 0)] []) fun c9 => (ap B H (oS 4 x2 (.agg c9)) fun v10 H11 => ob (peekN B H11 4 x2) fun c12 => tidyK n Q (.tuple [.agg c12,.int .i64 0,.int .i64 2]) H11) else J78_7 B cl n x0 x2 H Q)) : J78_0 B cl n x0 x2 x16 H Q := kp (by kernel_rfl) h
theorem J78_7_in {x0 x2 : AV} (h :
 ob (layParts [.nils,(.int .i64 0),(.bool false)] [(0,1,x0),(1,1,.int .i64 1)]) fun c13 => (ap B H (.box 3 (.const (.agg c13))) fun v14 H15 => J78_6 B cl n x0 x2 v14 H15 Q)) : J78_7 B cl n x0 x2 H Q := kp (by kernel_rfl) h
theorem J78_6_in {x0 x2 x5 : AV} (h :
 cl 98 [x5] H fun v16 H17 => pInt .u64 v16 fun n18 => J78_5 B cl n x0 x2 x5 n18 H17 Q) : J78_6 B cl n x0 x2 x5 H Q := kp (by kernel_rfl) h
theorem J78_5_in {x0 x2 x5 : AV} {x6 : Int} (h :
 (ap B H (oI 1 x0 (.int .i64 0)) fun v19 _ => ob (peek B H v19) fun c20 => pInt .u8 c20 fun n21 => ibinK .eql .u8 n21 1 fun v22 => cl 99 [x5] H fun v23 H24 => pStr v23 fun s25 => ((.int .i64 (IntKind.i64.wrap (minInts x6 [1099511627777])) : AV) = .int .i64 (IntKind.i64.wrap (minInts x6 [1099511627777]))) ∧ (((.int .u64 (minInts x6 [1099511627777]) : AV) = .int .u64 (minInts x6 [1099511627777])) ∧ (((.int .u64 x6 : AV) = .int .u64 x6) ∧ ((ibinK .eql .u8 n21 1 fun v34 => (v34 : AV) = v22) ∧ ((ob (peek B H24 v19) fun c32 => pInt .u8 c32 fun n33 => (.int .u8 n33 : AV) = .int .u8 n21) ∧ (((ap B H24 (oI 1 x0 (.int .i64 0)) fun v31 _ => (v31 : AV) = v19)) ∧ (((x0 : AV) = x0) ∧ (ob (layParts [(.str []),(.str []),(.bool false),(.int .i64 0)] [(0,1,.str s25),(2,1,v22),(3,1,.int .i64 (IntKind.i64.wrap (minInts x6 [1099511627777])))]) fun c26 => (ap B H24 (.alloc [(.str []),(.str []),(.bool false),(.int .i64 0)]) fun v27 H28 => (ap B H28 (oS 4 v27 (.agg c26)) fun v29 H30 => J78_4 B cl n x2 x5 v27 H30 Q))))))))))) : J78_5 B cl n x0 x2 x5 x6 H Q := kp (by kernel_rfl) h
theorem J78_4_in {x2 x5 x7 : AV} (h :
 (ap B H (oF 2 x7) fun v35 _ => ob (peek B H v35) fun c36 => pBool c36 fun b37 => bs b37 (J78_3 B cl n x2 x5 x7 H Q) (cl 99 [x5] H fun v38 H39 => pStr v38 fun s40 => (ap B H39 (oF 1 x7) fun v41 _ => (ap B H39 (oS 1 v41 (.str s40)) fun v42 H43 => J78_3 B cl n x2 x5 x7 H43 Q))))) : J78_4 B cl n x2 x5 x7 H Q := kp (by kernel_rfl) h
theorem J78_3_in {x2 x5 x7 : AV} (h :
 (ap B H (oN x5) fun v44 _ => (ap B H (oF 2 v44) fun v45 _ => ob (peek B H v45) fun c46 => pBool c46 fun b47 => bs b47 (J78_1 B cl n x2 x5 x7 (.bool true) H Q) (ob (peekN B H 4 x7) fun c48 => cl 59 [.agg c48] H fun v49 H50 => tyK .bool v49 fun v51 => (ap B H50 (.not (.const v51)) fun v52 _ => J78_1 B cl n x2 x5 x7 v52 H50 Q))))) : J78_3 B cl n x2 x5 x7 H Q := kp (by kernel_rfl) h
theorem J78_1_in {x2 x5 x7 x47 : AV} (h :
 pBool x47 fun b53 => (if b53 = true then ob (layParts [(.str []),(.str []),(.bool false),(.int .i64 0)] []) fun c54 => (ap B H (oS 4 x2 (.agg c54)) fun v55 H56 => ob (peekN B H56 4 x2) fun c57 => tidyK n Q (.tuple [.agg c57,.int .i64 0,.int .i64 2]) H56) else J78_2 B cl n x2 x5 x7 H Q)) : J78_1 B cl n x2 x5 x7 x47 H Q := kp (by kernel_rfl) h
theorem J78_2_in {x2 x5 x7 : AV} (h :
 ob (peekN B H 4 x7) fun c58 => (ap B H (oN x5) fun v59 _ => (ap B H (oF 1 v59) fun v60 _ => ob (peek B H v60) fun c61 => pInt .i64 c61 fun n62 => (ap B H (oS 4 x2 (.agg c58)) fun v63 H64 => (ob (peek B H64 v60) fun c68 => pInt .i64 c68 fun n69 => (.int .i64 n69 : AV) = .int .i64 n62) ∧ (((ap B H64 (oF 1 v59) fun v67 _ => (v67 : AV) = v60)) ∧ (((ap B H64 (oN x5) fun v66 _ => (v66 : AV) = v59)) ∧ (((x5 : AV) = x5) ∧ (ob (peekN B H64 4 x2) fun c65 => tidyK n Q (.tuple [.agg c65,.int .i64 n62,.int .i64 0]) H64)))))))) : J78_2 B cl n x2 x5 x7 H Q := kp (by kernel_rfl) h
theorem f78_in {x0 : AV} (h : fi B H [x0] fun n cl =>
 (ap B H (.alloc [(.str []),(.str []),(.bool false),(.int .i64 0)]) fun v1 H2 => J78_8 B cl n x0 v1 H2 Q)) : Cl B 78 [x0] H Q := fin rfl h (by kernel_rfl)
theorem J79_2_in {x0 : AV} {x1 : Int} {x2 : Bool} (h :
 (ap B H (oN x0) fun v1 _ => (ap B H (oF 1 v1) fun v2 _ => ob (peek B H v2) fun c3 => pBool c3 fun b4 => bs b4 ((ap B H (oN x0) fun v5 _ => (ap B H (oF 1 v5) fun v6 _ => (ap B H (oS 1 v6 (.bool true)) fun v7 H8 => J79_0 B cl n x0 x1 H8 Q)))) ((ap B H (.not (.const (.bool x2))) fun v9 _ => (ap B H (oN x0) fun v10 _ => (ap B H (oF 1 v10) fun v11 _ => (ap B H (oS 1 v11 v9) fun v12 H13 => J79_0 B cl n x0 x1 H13 Q)))))))) : J79_2 B cl n x0 x1 x2 H Q := kp (by simp only [ap,aop_w]; kernel_rfl) h
theorem J79_0_in {x0 : AV} {x1 : Int} (h :
 (ap B H (oN x0) fun v14 _ => (ap B H (oF 1 v14) fun v15 _ => ob (peek B H v15) fun c16 => pBool c16 fun b17 => bs b17 ((ap B H (oN x0) fun v18 _ => (ap B H (oF 0 v18) fun v19 _ => (ap B H (oS 1 v19 .nils) fun v20 H21 => tidyK n Q (.bool false) H21)))) (J79_1 B cl n x0 x1 H Q)))) : J79_0 B cl n x0 x1 H Q := kp (by simp only [ap,aop_w]; kernel_rfl) h
theorem J79_1_in {x0 : AV} {x1 : Int} (h :
 (ap B H (oN x0) fun v22 _ => (ap B H (oF 0 v22) fun v23 _ => ob (peek B H v23) fun c24 => pLive c24 fun v25 => (ap B H (.sliceL 1 (.const v25) (some (.const (.int .i64 x1))) none none) fun v26 _ => (ap B H (oN x0) fun v27 _ => (ap B H (oF 0 v27) fun v28 _ => (ap B H (oS 1 v28 v26) fun v29 H30 => tidyK n Q (.bool true) H30))))))) : J79_1 B cl n x0 x1 H Q := kp (by simp only [ap,aop_w]; kernel_rfl) h
theorem f79_in {x0 : AV} {x1 : Int} {x2 : Bool} (h : fi B H [x0,.int .i64 x1,.bool x2] fun n cl =>
 J79_2 B cl n x0 x1 x2 H Q) : Cl B 79 [x0,.int .i64 x1,.bool x2] H Q := fin rfl h (by kernel_rfl)
theorem J80_4_in {x0 : AV} (h :
 cl 81 [x0] H fun v1 H2 => pLive v1 fun v3 => (ap B H2 (oX 0 (some (.int .u64)) v3) fun v4 _ => (ap B H2 (oX 1 (some (.int .i64)) v3) fun v5 _ => (ap B H2 (oX 2 (some .bool) v3) fun v6 _ => J80_3 B cl n x0 v4 v5 v6 H2 Q)))) : J80_4 B cl n x0 H Q := kp (by kernel_rfl) h
theorem J80_3_in {x0 x5 x6 x7 : AV} (h :
 pBool x7 fun b7 => bs b7 (ob (lenOf x0) fun k8 => pInt .i64 x6 fun n9 => pInt .u64 x5 fun n10 => ibinK .gtr .u64 n10 (IntKind.u64.wrap (IntKind.i64.wrap ((k8 : Int) - n9))) fun v11 => J80_0 B cl n x0 x5 x6 v11 H Q) (J80_0 B cl n x0 x5 x6 (.bool true) H Q)) : J80_3 B cl n x0 x5 x6 x7 H Q := kp (by kernel_rfl) h
theorem J80_0_in {x0 x5 x6 x25 : AV} (h :
 pBool x25 fun b12 => (if b12 = true then tidyK n Q (.tuple [(.str []),.int .i64 0,.bool false]) H else J80_2 B cl n x0 x5 x6 H Q)) : J80_0 B cl n x0 x5 x6 x25 H Q := kp (by kernel_rfl) h
theorem J80_2_in {x0 x5 x6 : AV} (h :
 pInt .u64 x5 fun n13 => pInt .i64 x6 fun n14 => J80_1 B cl n x0 x6 (IntKind.i64.wrap (n14 + IntKind.i64.wrap n13)) H Q) : J80_2 B cl n x0 x5 x6 H Q := kp (by kernel_rfl) h
theorem J80_1_in {x0 x6 : AV} {x8 : Int} (h :
 (ap B H (.sliceL 1 (.const x0) (some (.const x6)) (some (.const (.int .i64 x8))) none) fun v15 _ => (ap B H (.toStr (.const v15)) fun v16 _ => tidyK n Q (.tuple [v16,.int .i64 x8,.bool true]) H))) : J80_1 B cl n x0 x6 x8 H Q := kp (by kernel_rfl) h
theorem f80_in {x0 : AV} (h : fi B H [x0] fun n cl =>
 J80_4 B cl n x0 H Q) : Cl B 80 [x0] H Q := fin rfl h (by kernel_rfl)
theorem J81_7_in {x0 : AV} (h :
 J81_6 B cl n x0 0 H Q) : J81_7 B cl n x0 H Q := kp (by kernel_rfl) h
theorem J81_6_in {x0 : AV} {x5 : Int} (h :
 ob (lenOf x0) fun k1 => (ap B H (.sliceL 1 (.const x0) none (some (.const (.int .i64 (minInts (k1 : Int) [10])))) none) fun v2 _ => ob (lenOf v2) fun k3 => L81_4 B cl n x5 v2 (k3 : Int) 0 H Q)) : J81_6 B cl n x0 x5 H Q := kp (by kernel_rfl) h
theorem L81_4_in {x5 : Int} {x12 : AV} {x13 x14 : Int} (hcl : CLe cl cl) (h :
 ibinK .lss .i64 x14 x13 fun v4 => J81_3 B cl n x5 x12 x13 x14 v4 H Q) : L81_4 B cl n x5 x12 x13 x14 H Q := ALoop.round2 hcl rfl (Eq.mpr (by kernel_rfl) h)
theorem J81_3_in {x5 : Int} {x12 : AV} {x13 x14 : Int} {x15 : AV} (h :
 pBool x15 fun b5 => (if b5 = true then (ap B H (oI 1 x12 (.int .i64 x14)) fun v6 _ => ob (peek B H v6) fun c7 => pInt .u8 c7 fun n8 => J81_2 B cl n x5 x14 n8 x12 x13 x14 H Q) else J81_5 B cl n H Q)) : J81_3 B cl n x5 x12 x13 x14 x15 H Q := kp (by kernel_rfl) h
theorem J81_2_in {x5 x6 x7 : Int} {x12 : AV} {x13 x14 : Int} (h :
 bs ((x6 : Int) == 9) (bs (decide ((x7 : Int) > 1)) (J81_0 B cl n x5 x6 x7 x12 x13 x14 (.bool true) H Q) (bs (decide ((x6 : Int) > 0)) (ibinK .eql .u8 x7 0 fun v9 => J81_0 B cl n x5 x6 x7 x12 x13 x14 v9 H Q) (J81_0 B cl n x5 x6 x7 x12 x13 x14 (.bool false) H Q))) (bs (decide ((x6 : Int) > 0)) (ibinK .eql .u8 x7 0 fun v10 => J81_0 B cl n x5 x6 x7 x12 x13 x14 v10 H Q) (J81_0 B cl n x5 x6 x7 x12 x13 x14 (.bool false) H Q))) : J81_2 B cl n x5 x6 x7 x12 x13 x14 H Q := kp (by kernel_rfl) h
theorem J81_5_in (h :
 tidyK n Q (.tuple [.int .u64 0,.int .i64 0,.bool false]) H) : J81_5 B cl n  H Q := kp (by kernel_rfl) h
theorem J81_0_in {x5 x6 x7 : Int} {x12 : AV} {x13 x14 : Int} {x32 : AV} (h :
 pBool x32 fun b11 => (if b11 = true then J81_5 B cl n H Q else (ap B H (.shf .shl .u64 (.const (.int .u64 (IntKind.u64.wrap (bitsOp .and IntKind.u8 x7 127)))) (.const (.int .i64 (IntKind.i64.wrap (7 * x6))))) fun v12 _ => pInt .u64 v12 fun n13 => J81_1 B cl n (bitsOp .or IntKind.u64 x5 n13) x6 x7 x12 x13 x14 H Q))) : J81_0 B cl n x5 x6 x7 x12 x13 x14 x32 H Q := kp (by kernel_rfl) h
theorem J81_1_in {x5 x6 x7 : Int} {x12 : AV} {x13 x14 : Int} (h :
 bs (decide ((x7 : Int) < 128)) (tidyK n Q (.tuple [.int .u64 x5,.int .i64 (IntKind.i64.wrap (x6 + 1)),.bool true]) H) (L81_4 B cl n x5 x12 x13 (IntKind.i64.wrap (x14 + 1)) H Q)) : J81_1 B cl n x5 x6 x7 x12 x13 x14 H Q := kp (by kernel_rfl) h
theorem f81_in {x0 : AV} (h : fi B H [x0] fun n cl =>
 J81_7 B cl n x0 H Q) : Cl B 81 [x0] H Q := fin rfl h (by kernel_rfl)
theorem f82_in {x0 x1 : AV} (h : fi B H [x0,x1] fun n cl =>
 (ap B H (.toStr (.const x0)) fun v1 _ => (ap B H (.toStr (.const x1)) fun v2 _ => pStr v1 fun s3 => pStr v2 fun s4 => sbinK .eql s3 s4 fun v5 => tidyK n Q v5 H))) : Cl B 82 [x0,x1] H Q := fin rfl h (by kernel_rfl)
theorem J83_13_in {x0 : List UInt8} {x2 : AV} (h :
 pStr ((.str [])) fun s3 => bs (x0 == s3) (ob (layParts [(.str []),(.str []),(.bool false),(.int .i64 0)] []) fun c4 => (ap B H (oS 4 x2 (.agg c4)) fun v5 H6 => ob (peekN B H6 4 x2) fun c7 => tidyK n Q (.tuple [.agg c7,.int .i64 0,.int .i64 2]) H6)) ((ap B H (.indexS (.const (.str x0)) (.const (.int .i64 0))) fun v8 _ => pInt .u8 v8 fun n9 => bs (decide ((n9 : Int) > 1)) (ob (layParts [(.str []),(.str []),(.bool false),(.int .i64 0)] []) fun c10 => (ap B H (oS 4 x2 (.agg c10)) fun v11 H12 => ob (peekN B H12 4 x2) fun c13 => tidyK n Q (.tuple [.agg c13,.int .i64 0,.int .i64 2]) H12)) (J83_12 B cl n x0 x2 H Q)))) : J83_13 B cl n x0 x2 H Q := kp (by simp only [ap,aop_w]; kernel_rfl) h
theorem J83_12_in {x0 : List UInt8} {x2 : AV} (h :
 (ap B H (.sliceS (.const (.str x0)) (some (.const (.int .i64 1))) none) fun v14 _ => cl 85 [v14] H fun v15 H16 => pLive v15 fun v17 => (ap B H16 (oX 0 (some (.int .u64)) v17) fun v18 _ => (ap B H16 (oX 1 (some (.int .i64)) v17) fun v19 _ => (ap B H16 (oX 2 (some .bool) v17) fun v20 _ => J83_11 B cl n x0 x2 v18 v19 v20 H16 Q))))) : J83_12 B cl n x0 x2 H Q := kp (by simp only [ap,aop_w]; kernel_rfl) h
theorem J83_11_in {x0 : List UInt8} {x2 x5 x6 x7 : AV} (h :
 pBool x7 fun b21 => bs b21 (pInt .u64 x5 fun n22 => bs (decide ((n22 : Int) > 1099511627776)) (ob (layParts [(.str []),(.str []),(.bool false),(.int .i64 0)] []) fun c23 => (ap B H (oS 4 x2 (.agg c23)) fun v24 H25 => ob (peekN B H25 4 x2) fun c26 => tidyK n Q (.tuple [.agg c26,.int .i64 0,.int .i64 2]) H25)) (J83_10 B cl n x0 x2 x5 x6 H Q)) (ob (layParts [(.str []),(.str []),(.bool false),(.int .i64 0)] []) fun c27 => (ap B H (oS 4 x2 (.agg c27)) fun v28 H29 => ob (peekN B H29 4 x2) fun c30 => tidyK n Q (.tuple [.agg c30,.int .i64 0,.int .i64 2]) H29))) : J83_11 B cl n x0 x2 x5 x6 x7 H Q := kp (by simp only [ap,aop_w]; kernel_rfl) h
theorem J83_10_in {x0 : List UInt8} {x2 x5 x6 : AV} (h :
 pInt .i64 x6 fun n31 => J83_9 B cl n x0 x2 x5 (IntKind.i64.wrap (1 + n31)) H Q) : J83_10 B cl n x0 x2 x5 x6 H Q := kp (by kernel_rfl) h
theorem J83_9_in {x0 : List UInt8} {x2 x5 : AV} {x8 : Int} (h :
 (ap B H (.sliceS (.const (.str x0)) (some (.const (.int .i64 x8))) none) fun v32 _ => cl 84 [v32] H fun v33 H34 => pLive v33 fun v35 => (ap B H34 (oX 0 (some .str) v35) fun v36 _ => (ap B H34 (oX 1 (some (.int .i64)) v35) fun v37 _ => (ap B H34 (oX 2 (some .bool) v35) fun v38 _ => J83_8 B cl n x0 x2 x5 x8 v36 v37 v38 H34 Q))))) : J83_9 B cl n x0 x2 x5 x8 H Q := kp (by simp only [ap,aop_w]; kernel_rfl) h
theorem J83_8_in {x0 : List UInt8} {x2 x5 : AV} {x8 : Int} {x9 x10 x11 : AV} (h :
 pBool x11 fun b39 => bs b39 (J83_7 B cl n x0 x2 x5 x8 x9 x10 H Q) (ob (layParts [(.str []),(.str []),(.bool false),(.int .i64 0)] []) fun c40 => (ap B H (oS 4 x2 (.agg c40)) fun v41 H42 => ob (peekN B H42 4 x2) fun c43 => tidyK n Q (.tuple [.agg c43,.int .i64 0,.int .i64 2]) H42))) : J83_8 B cl n x0 x2 x5 x8 x9 x10 x11 H Q := kp (by simp only [ap,aop_w]; kernel_rfl) h
theorem J83_7_in {x0 : List UInt8} {x2 x5 : AV} {x8 : Int} {x9 x10 : AV} (h :
 pInt .i64 x10 fun n44 => J83_6 B cl n x0 x2 x5 (IntKind.i64.wrap (x8 + n44)) x9 H Q) : J83_7 B cl n x0 x2 x5 x8 x9 x10 H Q := kp (by kernel_rfl) h
theorem J83_6_in {x0 : List UInt8} {x2 x5 : AV} {x8 : Int} {x9 : AV} (h :
 (ap B H (.indexS (.const (.str x0)) (.const (.int .i64 0))) fun v45 _ => pInt .u8 v45 fun n46 => ibinK .eql .u8 n46 1 fun v47 => pInt .u64 x5 fun n48 => ob (layParts [(.str []),(.str []),(.bool false),(.int .i64 0)] [(0,1,x9),(2,1,v47),(3,1,.int .i64 (IntKind.i64.wrap n48))]) fun c49 => (ap B H (.alloc [(.str []),(.str []),(.bool false),(.int .i64 0)]) fun v50 H51 => (ap B H51 (oS 4 v50 (.agg c49)) fun v52 H53 => J83_5 B cl n x0 x2 x8 v50 H53 Q)))) : J83_6 B cl n x0 x2 x5 x8 x9 H Q := kp (by simp only [ap,aop_w]; kernel_rfl) h
theorem J83_5_in {x0 : List UInt8} {x2 : AV} {x8 : Int} {x12 : AV} (h :
 (ap B H (oF 2 x12) fun v54 _ => ob (peek B H v54) fun c55 => tyK .bool c55 fun v56 => (ap B H (.not (.const v56)) fun v57 _ => J83_2 B cl n x0 x2 x8 x12 v57 H Q))) : J83_5 B cl n x0 x2 x8 x12 H Q := kp (by simp only [ap,aop_w]; kernel_rfl) h
theorem J83_2_in {x0 : List UInt8} {x2 : AV} {x8 : Int} {x12 x64 : AV} (h :
 pBool x64 fun b58 => (if b58 = true then (ap B H (.sliceS (.const (.str x0)) (some (.const (.int .i64 x8))) none) fun v59 _ => cl 84 [v59] H fun v60 H61 => pLive v60 fun v62 => (ap B H61 (oX 0 (some .str) v62) fun v63 _ => (ap B H61 (oX 1 (some (.int .i64)) v62) fun v64 _ => (ap B H61 (oX 2 (some .bool) v62) fun v65 _ => J83_1 B cl n x2 x8 x12 v63 v64 v65 H61 Q)))) else J83_4 B cl n x2 x8 x12 H Q)) : J83_2 B cl n x0 x2 x8 x12 x64 H Q := kp (by simp only [ap,aop_w]; kernel_rfl) h
theorem J83_1_in {x2 : AV} {x8 : Int} {x12 x13 x14 x15 : AV} (h :
 pBool x15 fun b66 => bs b66 (J83_0 B cl n x2 x8 x12 x13 x14 H Q) (ob (layParts [(.str []),(.str []),(.bool false),(.int .i64 0)] []) fun c67 => (ap B H (oS 4 x2 (.agg c67)) fun v68 H69 => ob (peekN B H69 4 x2) fun c70 => tidyK n Q (.tuple [.agg c70,.int .i64 0,.int .i64 2]) H69))) : J83_1 B cl n x2 x8 x12 x13 x14 x15 H Q := kp (by simp only [ap,aop_w]; kernel_rfl) h
theorem J83_4_in {x2 : AV} {x8 : Int} {x12 : AV} (h :
 ob (peekN B H 4 x12) fun c71 => cl 63 [.agg c71] H fun v72 H73 => tyK .bool v72 fun v74 => J83_3 B cl n x2 x8 x12 v74 H73 Q) : J83_4 B cl n x2 x8 x12 H Q := kp (by kernel_rfl) h
theorem J83_0_in {x2 : AV} {x8 : Int} {x12 x13 x14 : AV} (h :
 (ap B H (oF 1 x12) fun v75 _ => (ap B H (oS 1 v75 x13) fun v76 H77 => pInt .i64 x14 fun n78 => J83_4 B cl n x2 (IntKind.i64.wrap (x8 + n78)) x12 H77 Q))) : J83_0 B cl n x2 x8 x12 x13 x14 H Q := kp (by simp only [ap,aop_w]; kernel_rfl) h
theorem J83_3_in {x2 : AV} {x8 : Int} {x12 x16 : AV} (h :
 pBool x16 fun b79 => bs b79 (ob (peekN B H 4 x12) fun c80 => (ap B H (oS 4 x2 (.agg c80)) fun v81 H82 => ob (peekN B H82 4 x2) fun c83 => tidyK n Q (.tuple [.agg c83,.int .i64 x8,.int .i64 0]) H82)) (ob (layParts [(.str []),(.str []),(.bool false),(.int .i64 0)] []) fun c84 => (ap B H (oS 4 x2 (.agg c84)) fun v85 H86 => ob (peekN B H86 4 x2) fun c87 => tidyK n Q (.tuple [.agg c87,.int .i64 0,.int .i64 2]) H86))) : J83_3 B cl n x2 x8 x12 x16 H Q := kp (by simp only [ap,aop_w]; kernel_rfl) h
theorem f83_in {x0 : List UInt8} (h : fi B H [.str x0] fun n cl =>
 (ap B H (.alloc [(.str []),(.str []),(.bool false),(.int .i64 0)]) fun v1 H2 => J83_13 B cl n x0 v1 H2 Q)) : Cl B 83 [.str x0] H Q := fin rfl h (by simp only [ap,aop_w]; kernel_rfl)
theorem J84_3_in {x0 : List UInt8} (h :
 cl 85 [.str x0] H fun v1 H2 => pLive v1 fun v3 => (ap B H2 (oX 0 (some (.int .u64)) v3) fun v4 _ => (ap B H2 (oX 1 (some (.int .i64)) v3) fun v5 _ => (ap B H2 (oX 2 (some .bool) v3) fun v6 _ => J84_2 B cl n x0 v4 v5 v6 H2 Q)))) : J84_3 B cl n x0 H Q := kp (by kernel_rfl) h
theorem J84_2_in {x0 : List UInt8} {x5 x6 x7 : AV} (h :
 pBool x7 fun b7 => bs b7 (pInt .i64 x6 fun n8 => pInt .u64 x5 fun n9 => ibinK .gtr .u64 n9 (IntKind.u64.wrap (IntKind.i64.wrap (((List.length x0 : Nat) : Int) - n8))) fun v10 => J84_0 B cl n x0 x5 x6 v10 H Q) (J84_0 B cl n x0 x5 x6 (.bool true) H Q)) : J84_2 B cl n x0 x5 x6 x7 H Q := kp (by kernel_rfl) h
theorem J84_0_in {x0 : List UInt8} {x5 x6 x24 : AV} (h :
 pBool x24 fun b11 => (if b11 = true then tidyK n Q (.tuple [(.str []),.int .i64 0,.bool false]) H else J84_1 B cl n x0 x5 x6 H Q)) : J84_0 B cl n x0 x5 x6 x24 H Q := kp (by kernel_rfl) h
theorem J84_1_in {x0 : List UInt8} {x5 x6 : AV} (h :
 pInt .u64 x5 fun n12 => pInt .i64 x6 fun n13 => (ap B H (.sliceS (.const (.str x0)) (some (.const x6)) (some (.const (.int .i64 (IntKind.i64.wrap (n13 + IntKind.i64.wrap n12)))))) fun v14 _ => pInt .u64 x5 fun n15 => pInt .i64 x6 fun n16 => tidyK n Q (.tuple [v14,.int .i64 (IntKind.i64.wrap (n16 + IntKind.i64.wrap n15)),.bool true]) H)) : J84_1 B cl n x0 x5 x6 H Q := kp (by kernel_rfl) h
theorem f84_in {x0 : List UInt8} (h : fi B H [.str x0] fun n cl =>
 J84_3 B cl n x0 H Q) : Cl B 84 [.str x0] H Q := fin rfl h (by kernel_rfl)
end Go.Am
