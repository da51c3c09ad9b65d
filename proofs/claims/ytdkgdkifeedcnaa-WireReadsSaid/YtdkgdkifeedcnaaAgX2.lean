/- What the functions of the seat do,from label to label. -/
import Derived.Test.YtdkgdkifeedcnaaAf
namespace Go.Am
open Go
set_option maxRecDepth 100000
variable (B : Base) (cl : CallK) (n : Nat)
def k17_0 (Q : Po) : KQ := kt B cl n a17 c17_17 Q
def k17_1 (Q : Po) : KQ := kt B cl n a17 c17_14 Q
def k17_2 (Q : Po) : KQ := kt B cl n a17 c17_12 Q
def k17_3 (Q : Po) : KQ := (AExit.blockK 0 (k17_2 B cl n Q))
def k18_0 (Q : Po) : KQ := kt B cl n a18 c18_8 Q
def k18_1 (Q : Po) : KQ := kt B cl n a18 c18_4 Q
def k19_0 (Q : Po) : KQ := kt B cl n a19 c19_5 Q
def k19_1 (Q : Po) : KQ := kt B cl n a19 c19_4 Q
def k19_2 (Q : Po) : KQ := (AExit.blockK 0 (k19_1 B cl n Q))
def k19_3 (Q : Po) : KQ := (AExit.thenK (fun e h => awC B cl (ALoop n) c19_3 e h (k19_2 B cl n Q)) (k19_2 B cl n Q))
def k19_4 (Q : Po) : KQ := (AExit.thenK (fun e h => awC B cl (ALoop n) (.ops [⟨(some 39),none,(.op (.mov (.tmp 7)))⟩,⟨(some 40),none,(.op (.ibin .add .i64 (.tmp 39) (.const (.int .i64 1))))⟩,⟨(some 7),none,(.op (.mov (.tmp 40)))⟩]) e h (k19_3 B cl n Q)) (k19_3 B cl n Q))
def k19_5 (Q : Po) : KQ := (AExit.blockK 1 (k19_4 B cl n Q))
def k20_0 (Q : Po) : KQ := kt B cl n a20 c20_6 Q
def k20_1 (Q : Po) : KQ := (AExit.blockK 0 (k20_0 B cl n Q))
def k20_2 (Q : Po) : KQ := (AExit.thenK (fun e h => awC B cl (ALoop n) (.seq (.ops [⟨(some 66),none,(.op (.ldA 6 (.tmp 5)))⟩,⟨none,none,(.op (.st 6 (.tmp 2) (.tmp 66)))⟩,⟨(some 3),none,(.op (.mov (.const (.int .i64 0))))⟩]) .ret) e h (fnQ B a20 (tidyK n Q))) (fnQ B a20 (tidyK n Q)))
def J17_18 (x0 : Int) (x3 : AV) (H : Heap) (Q : Po) := jn B cl n a17 c17_18 (ev 124 [(0,.int .i64 x0),(3,x3)]) H Q
def J17_0 (x0 : Int) (x3 x22 : AV) (H : Heap) (Q : Po) := jw B cl n c17_0 (ev 124 [(0,.int .i64 x0),(3,x3),(22,x22)]) H (k17_0 B cl n Q)
def J17_17 (x0 : Int) (x3 : AV) (H : Heap) (Q : Po) := jn B cl n a17 c17_17 (ev 124 [(0,.int .i64 x0),(3,x3)]) H Q
def J17_16 (x0 : Int) (x3 x6 : AV) (H : Heap) (Q : Po) := jn B cl n a17 c17_16 (ev 124 [(0,.int .i64 x0),(3,x3),(6,x6)]) H Q
def J17_15 (x0 : Int) (x3 x6 : AV) (H : Heap) (Q : Po) := jn B cl n a17 c17_15 (ev 124 [(0,.int .i64 x0),(3,x3),(6,x6)]) H Q
def J17_1 (x0 : Int) (x3 x6 x31 : AV) (H : Heap) (Q : Po) := jw B cl n c17_1 (ev 124 [(0,.int .i64 x0),(3,x3),(6,x6),(31,x31)]) H (k17_1 B cl n Q)
def J17_14 (x0 : Int) (x3 x6 : AV) (H : Heap) (Q : Po) := jn B cl n a17 c17_14 (ev 124 [(0,.int .i64 x0),(3,x3),(6,x6)]) H Q
def J17_13 (x0 : Int) (x3 x6 : AV) (H : Heap) (Q : Po) := jn B cl n a17 c17_13 (ev 124 [(0,.int .i64 x0),(3,x3),(6,x6)]) H Q
def J17_11 (x3 x6 : AV) (x45 : Int) (H : Heap) (Q : Po) := jw B cl n c17_11 (ev 124 [(3,x3),(6,x6),(45,.int .i64 x45)]) H (k17_2 B cl n Q)
def J17_10 (x3 x6 : AV) (x45 : Int) (x46 : AV) (H : Heap) (Q : Po) := jw B cl n c17_10 (ev 124 [(3,x3),(6,x6),(45,.int .i64 x45),(46,x46)]) H (k17_3 B cl n Q)
def J17_12 (x6 : AV) (H : Heap) (Q : Po) := jn B cl n a17 c17_12 (ev 124 [(6,x6)]) H Q
def J17_9 (x3 x6 : AV) (x45 : Int) (x52 : AV) (H : Heap) (Q : Po) := jw B cl n c17_9 (ev 124 [(3,x3),(6,x6),(45,.int .i64 x45),(52,x52)]) H (k17_3 B cl n Q)
def J17_2 (x3 x6 : AV) (H : Heap) (Q : Po) := jw B cl n c17_2 (ev 124 [(3,x3),(6,x6)]) H (k17_3 B cl n Q)
def J17_8 (x3 x6 : AV) (x45 : Int) (x67 : AV) (H : Heap) (Q : Po) := jw B cl n c17_8 (ev 124 [(3,x3),(6,x6),(45,.int .i64 x45),(67,x67)]) H (k17_3 B cl n Q)
def J17_3 (x3 x6 : AV) (H : Heap) (Q : Po) := jw B cl n c17_3 (ev 124 [(3,x3),(6,x6)]) H (k17_3 B cl n Q)
def J17_7 (x3 x6 : AV) (x45 : Int) (x82 : AV) (H : Heap) (Q : Po) := jw B cl n c17_7 (ev 124 [(3,x3),(6,x6),(45,.int .i64 x45),(82,x82)]) H (k17_3 B cl n Q)
def J17_6 (x3 x6 : AV) (x45 : Int) (x93 : AV) (H : Heap) (Q : Po) := jw B cl n c17_6 (ev 124 [(3,x3),(6,x6),(45,.int .i64 x45),(93,x93)]) H (k17_3 B cl n Q)
def J17_5 (x3 x6 : AV) (H : Heap) (Q : Po) := jw B cl n c17_5 (ev 124 [(3,x3),(6,x6)]) H (k17_3 B cl n Q)
def J17_4 (x3 x6 : AV) (H : Heap) (Q : Po) := jw B cl n c17_4 (ev 124 [(3,x3),(6,x6)]) H (k17_3 B cl n Q)
def J18_9 (x0 : Int) (x3 : AV) (H : Heap) (Q : Po) := jn B cl n a18 c18_9 (ev 53 [(0,.int .i64 x0),(3,x3)]) H Q
def J18_0 (x0 : Int) (x3 x25 : AV) (H : Heap) (Q : Po) := jw B cl n c18_0 (ev 53 [(0,.int .i64 x0),(3,x3),(25,x25)]) H (k18_0 B cl n Q)
def J18_8 (x0 : Int) (x3 : AV) (H : Heap) (Q : Po) := jn B cl n a18 c18_8 (ev 53 [(0,.int .i64 x0),(3,x3)]) H Q
def J18_7 (x0 : Int) (x3 x6 : AV) (H : Heap) (Q : Po) := jn B cl n a18 c18_7 (ev 53 [(0,.int .i64 x0),(3,x3),(6,x6)]) H Q
def J18_6 (x0 : Int) (x3 x6 : AV) (x7 : List UInt8) (H : Heap) (Q : Po) := jn B cl n a18 c18_6 (ev 53 [(0,.int .i64 x0),(3,x3),(6,x6),(7,.str x7)]) H Q
def J18_5 (x0 : Int) (x3 x6 : AV) (x7 : List UInt8) (x8 : Bool) (H : Heap) (Q : Po) := jn B cl n a18 c18_5 (ev 53 [(0,.int .i64 x0),(3,x3),(6,x6),(7,.str x7),(8,.bool x8)]) H Q
def J18_1 (x0 : Int) (x3 x6 : AV) (x7 : List UInt8) (x8 : Bool) (x34 : AV) (H : Heap) (Q : Po) := jw B cl n c18_1 (ev 53 [(0,.int .i64 x0),(3,x3),(6,x6),(7,.str x7),(8,.bool x8),(34,x34)]) H (k18_1 B cl n Q)
def J18_4 (x3 x6 x7 x8 : AV) (H : Heap) (Q : Po) := jn B cl n a18 c18_4 (ev 53 [(3,x3),(6,x6),(7,x7),(8,x8)]) H Q
def J18_3 (x7 x8 x9 : AV) (H : Heap) (Q : Po) := jn B cl n a18 c18_3 (ev 53 [(7,x7),(8,x8),(9,x9)]) H Q
def J18_2 (x7 : AV) (H : Heap) (Q : Po) := jn B cl n a18 c18_2 (ev 53 [(7,x7)]) H Q
def J19_8 (x2 x3 : AV) (H : Heap) (Q : Po) := jn B cl n a19 c19_8 (ev 82 [(2,x2),(3,x3)]) H Q
def J19_7 (x2 x3 x5 : AV) (H : Heap) (Q : Po) := jn B cl n a19 c19_7 (ev 82 [(2,x2),(3,x3),(5,x5)]) H Q
def J19_6 (x2 x3 x5 x6 : AV) (H : Heap) (Q : Po) := jn B cl n a19 c19_6 (ev 82 [(2,x2),(3,x3),(5,x5),(6,x6)]) H Q
def J19_0 (x2 x3 x33 : AV) (H : Heap) (Q : Po) := jw B cl n c19_0 (ev 82 [(2,x2),(3,x3),(33,x33)]) H (k19_0 B cl n Q)
def J19_5 (x2 x3 : AV) (H : Heap) (Q : Po) := jn B cl n a19 c19_5 (ev 82 [(2,x2),(3,x3)]) H Q
def L19_3 (x2 x3 : AV) (x7 : Int) (H : Heap) (Q : Po) := jw B cl n c19_3 (ev 82 [(2,x2),(3,x3),(7,.int .i64 x7)]) H (k19_2 B cl n Q)
def J19_2 (x2 x3 : AV) (x7 : Int) (H : Heap) (Q : Po) := jw B cl n c19_2 (ev 82 [(2,x2),(3,x3),(7,.int .i64 x7)]) H (k19_3 B cl n Q)
def J19_4 (x2 x3 : AV) (H : Heap) (Q : Po) := jn B cl n a19 c19_4 (ev 82 [(2,x2),(3,x3)]) H Q
def J19_1 (x2 x3 : AV) (x7 : Int) (x8 : AV) (H : Heap) (Q : Po) := jw B cl n c19_1 (ev 82 [(2,x2),(3,x3),(7,.int .i64 x7),(8,x8)]) H (k19_5 B cl n Q)
def J20_10 (x0 x2 : AV) (H : Heap) (Q : Po) := jn B cl n a20 c20_10 (ev 67 [(0,x0),(2,x2)]) H Q
def J20_9 (x0 x2 : AV) (H : Heap) (Q : Po) := jn B cl n a20 c20_9 (ev 67 [(0,x0),(2,x2)]) H Q
def J20_8 (x0 x2 x4 : AV) (H : Heap) (Q : Po) := jn B cl n a20 c20_8 (ev 67 [(0,x0),(2,x2),(4,x4)]) H Q
def J20_7 (x0 x2 x4 x5 : AV) (H : Heap) (Q : Po) := jn B cl n a20 c20_7 (ev 67 [(0,x0),(2,x2),(4,x4),(5,x5)]) H Q
def J20_3 (x0 x2 x4 x5 : AV) (x22 : Int) (H : Heap) (Q : Po) := jw B cl n c20_3 (ev 67 [(0,x0),(2,x2),(4,x4),(5,x5),(22,.int .i64 x22)]) H (k20_0 B cl n Q)
def J20_2 (x0 x2 x4 x5 : AV) (x22 : Int) (x23 : AV) (H : Heap) (Q : Po) := jw B cl n c20_2 (ev 67 [(0,x0),(2,x2),(4,x4),(5,x5),(22,.int .i64 x22),(23,x23)]) H (k20_1 B cl n Q)
def J20_6 (x0 x2 x4 x5 : AV) (H : Heap) (Q : Po) := jn B cl n a20 c20_6 (ev 67 [(0,x0),(2,x2),(4,x4),(5,x5)]) H Q
def J20_1 (x0 x2 x4 x5 : AV) (x22 : Int) (x30 : AV) (H : Heap) (Q : Po) := jw B cl n c20_1 (ev 67 [(0,x0),(2,x2),(4,x4),(5,x5),(22,.int .i64 x22),(30,x30)]) H (k20_1 B cl n Q)
def J20_5 (x0 x2 x4 x5 x6 x7 : AV) (H : Heap) (Q : Po) := jw B cl n c20_5 (ev 67 [(0,x0),(2,x2),(4,x4),(5,x5),(6,x6),(7,x7)]) H (k20_2 B cl n Q)
def J20_0 (x0 x2 x4 x5 x43 : AV) (H : Heap) (Q : Po) := jw B cl n c20_0 (ev 67 [(0,x0),(2,x2),(4,x4),(5,x5),(43,x43)]) H (k20_1 B cl n Q)
def J20_4 (x2 x5 x64 : AV) (H : Heap) (Q : Po) := jw B cl n c20_4 (ev 67 [(2,x2),(5,x5),(64,x64)]) H (k20_2 B cl n Q)
variable {B cl n} {H : Heap} {Q : Po}
theorem J17_18_in {x0 : Int} {x3 : AV} (h :
 bs (decide ((x0 : Int) < 1)) (J17_0 B cl n x0 x3 (.bool true) H Q) (bs (decide ((x0 : Int) > 6)) (J17_0 B cl n x0 x3 (.bool true) H Q) ((ap B H (oF 0 x3) fun v3 _ => ob (peek B H v3) fun c4 => pInt .i64 c4 fun n5 => bs (decide ((n5 : Int) < 0)) (J17_0 B cl n x0 x3 (.bool true) H Q) ((ap B H (oF 0 x3) fun v6 _ => ob (peek B H v6) fun c7 => pInt .i64 c7 fun n8 => ibinK .gtr .i64 n8 10 fun v9 => J17_0 B cl n x0 x3 v9 H Q)))))) : J17_18 B cl n x0 x3 H Q := kp (by kernel_rfl) h
theorem J17_0_in {x0 : Int} {x3 x22 : AV} (h :
 pBool x22 fun b10 => (if b10 = true then tidyK n Q (.tuple [.nils,.int .i64 1]) H else J17_17 B cl n x0 x3 H Q)) : J17_0 B cl n x0 x3 x22 H Q := kp (by kernel_rfl) h
theorem J17_17_in {x0 : Int} {x3 : AV} (h :
 ob (layParts [.nils,(.bool false)] []) fun c11 => (ap B H (.box 2 (.const (.agg c11))) fun v12 H13 => J17_16 B cl n x0 x3 v12 H13 Q)) : J17_17 B cl n x0 x3 H Q := kp (by kernel_rfl) h
theorem J17_16_in {x0 : Int} {x3 x6 : AV} (h :
 (ap B H (oF 0 x3) fun v14 _ => ob (peek B H v14) fun c15 => pInt .i64 c15 fun n16 => cl 29 [x6,.int .i64 n16] H fun v17 H18 => pLive v17 fun v19 => J17_15 B cl n x0 x3 x6 H18 Q)) : J17_16 B cl n x0 x3 x6 H Q := kp (by kernel_rfl) h
theorem J17_15_in {x0 : Int} {x3 x6 : AV} (h :
 (ap B H (oF 0 x3) fun v20 _ => ob (peek B H v20) fun c21 => pInt .i64 c21 fun n22 => ibinK .neq .i64 n22 0 fun v23 => J17_1 B cl n x0 x3 x6 v23 H Q)) : J17_15 B cl n x0 x3 x6 H Q := kp (by kernel_rfl) h
theorem J17_1_in {x0 : Int} {x3 x6 x31 : AV} (h :
 pBool x31 fun b24 => (if b24 = true then ob (peekN B H 9 x3) fun c25 => cl 38 [.int .i64 0,.agg c25] H fun v26 H27 => tyK .bool v26 fun v28 => cl 25 [x6,v28] H27 fun v29 H30 => pLive v29 fun v31 => cl 30 [x6] H30 fun v32 H33 => pLive v32 fun v34 => (ap B H33 (oX 0 (some .other) v34) fun v35 _ => (ap B H33 (oX 1 (some (.int .i64)) v34) fun v36 _ => tidyK n Q (.tuple [v35,v36]) H33)) else J17_14 B cl n x0 x3 x6 H Q)) : J17_1 B cl n x0 x3 x6 x31 H Q := kp (by kernel_rfl) h
theorem J17_14_in {x0 : Int} {x3 x6 : AV} (h :
 ob (peekN B H 9 x3) fun c37 => cl 38 [.int .i64 x0,.agg c37] H fun v38 H39 => tyK .bool v38 fun v40 => cl 25 [x6,v40] H39 fun v41 H42 => pLive v41 fun v43 => J17_13 B cl n x0 x3 x6 H42 Q) : J17_14 B cl n x0 x3 x6 H Q := kp (by kernel_rfl) h
theorem J17_13_in {x0 : Int} {x3 x6 : AV} (h :
 J17_11 B cl n x3 x6 x0 H Q) : J17_13 B cl n x0 x3 x6 H Q := kp (by kernel_rfl) h
theorem J17_11_in {x3 x6 : AV} {x45 : Int} (h :
 ibinK .eql .i64 x45 1 fun v44 => J17_10 B cl n x3 x6 x45 v44 H Q) : J17_11 B cl n x3 x6 x45 H Q := kp (by kernel_rfl) h
theorem J17_10_in {x3 x6 : AV} {x45 : Int} {x46 : AV} (h :
 pBool x46 fun b45 => (if b45 = true then (ap B H (oF 1 x3) fun v46 _ => ob (peek B H v46) fun c47 => pInt .i64 c47 fun n48 => cl 29 [x6,.int .i64 n48] H fun v49 H50 => pLive v49 fun v51 => J17_12 B cl n x6 H50 Q) else ibinK .eql .i64 x45 2 fun v52 => J17_9 B cl n x3 x6 x45 v52 H Q)) : J17_10 B cl n x3 x6 x45 x46 H Q := kp (by kernel_rfl) h
theorem J17_12_in {x6 : AV} (h :
 cl 30 [x6] H fun v53 H54 => pLive v53 fun v55 => (ap B H54 (oX 0 (some .other) v55) fun v56 _ => (ap B H54 (oX 1 (some (.int .i64)) v55) fun v57 _ => tidyK n Q (.tuple [v56,v57]) H54))) : J17_12 B cl n x6 H Q := kp (by kernel_rfl) h
theorem J17_9_in {x3 x6 : AV} {x45 : Int} {x52 : AV} (h :
 pBool x52 fun b58 => (if b58 = true then (ap B H (oF 3 x3) fun v59 _ => (ap B H (oF 0 v59) fun v60 _ => ob (peek B H v60) fun c61 => pLive c61 fun v62 => (ap B H (.toStr (.const v62)) fun v63 _ => cl 28 [x6,v63] H fun v64 H65 => pLive v64 fun v66 => J17_2 B cl n x3 x6 H65 Q))) else ibinK .eql .i64 x45 3 fun v67 => J17_8 B cl n x3 x6 x45 v67 H Q)) : J17_9 B cl n x3 x6 x45 x52 H Q := kp (by kernel_rfl) h
theorem J17_2_in {x3 x6 : AV} (h :
 (ap B H (oF 3 x3) fun v68 _ => (ap B H (oF 1 v68) fun v69 _ => ob (peek B H v69) fun c70 => pLive c70 fun v71 => cl 39 [x6,v71,.int .i64 512,.func (.func 40) [x6] []] H fun v72 H73 => pLive v72 fun v74 => J17_12 B cl n x6 H73 Q))) : J17_2 B cl n x3 x6 H Q := kp (by kernel_rfl) h
theorem J17_8_in {x3 x6 : AV} {x45 : Int} {x67 : AV} (h :
 pBool x67 fun b75 => (if b75 = true then (ap B H (oF 5 x3) fun v76 _ => (ap B H (oF 0 v76) fun v77 _ => ob (peek B H v77) fun c78 => pLive c78 fun v79 => (ap B H (.toStr (.const v79)) fun v80 _ => cl 28 [x6,v80] H fun v81 H82 => pLive v81 fun v83 => J17_3 B cl n x3 x6 H82 Q))) else ibinK .eql .i64 x45 4 fun v84 => J17_7 B cl n x3 x6 x45 v84 H Q)) : J17_8 B cl n x3 x6 x45 x67 H Q := kp (by kernel_rfl) h
theorem J17_3_in {x3 x6 : AV} (h :
 (ap B H (oF 5 x3) fun v85 _ => (ap B H (oF 1 v85) fun v86 _ => ob (peek B H v86) fun c87 => pLive c87 fun v88 => cl 41 [x6,v88,.int .i64 512,.func (.func 42) [x6] []] H fun v89 H90 => pLive v89 fun v91 => J17_12 B cl n x6 H90 Q))) : J17_3 B cl n x3 x6 H Q := kp (by kernel_rfl) h
theorem J17_7_in {x3 x6 : AV} {x45 : Int} {x82 : AV} (h :
 pBool x82 fun b92 => (if b92 = true then (ap B H (oF 2 x3) fun v93 _ => ob (peek B H v93) fun c94 => pInt .i64 c94 fun n95 => cl 29 [x6,.int .i64 n95] H fun v96 H97 => pLive v96 fun v98 => (ap B H97 (oF 7 x3) fun v99 _ => ob (peek B H97 v99) fun c100 => pLive c100 fun v101 => (ap B H97 (.toStr (.const v101)) fun v102 _ => cl 28 [x6,v102] H97 fun v103 H104 => pLive v103 fun v105 => J17_12 B cl n x6 H104 Q))) else ibinK .eql .i64 x45 5 fun v106 => J17_6 B cl n x3 x6 x45 v106 H Q)) : J17_7 B cl n x3 x6 x45 x82 H Q := kp (by kernel_rfl) h
theorem J17_6_in {x3 x6 : AV} {x45 : Int} {x93 : AV} (h :
 pBool x93 fun b107 => (if b107 = true then (ap B H (oF 2 x3) fun v108 _ => ob (peek B H v108) fun c109 => pInt .i64 c109 fun n110 => cl 29 [x6,.int .i64 n110] H fun v111 H112 => pLive v111 fun v113 => J17_5 B cl n x3 x6 H112 Q) else bs ((x45 : Int) == 6) ((ap B H (oF 1 x3) fun v114 _ => ob (peek B H v114) fun c115 => pInt .i64 c115 fun n116 => cl 29 [x6,.int .i64 n116] H fun v117 H118 => pLive v117 fun v119 => (ap B H118 (oF 2 x3) fun v120 _ => ob (peek B H118 v120) fun c121 => pInt .i64 c121 fun n122 => cl 29 [x6,.int .i64 n122] H118 fun v123 H124 => pLive v123 fun v125 => J17_12 B cl n x6 H124 Q))) (J17_12 B cl n x6 H Q))) : J17_6 B cl n x3 x6 x45 x93 H Q := kp (by kernel_rfl) h
theorem J17_5_in {x3 x6 : AV} (h :
 (ap B H (oF 7 x3) fun v126 _ => ob (peek B H v126) fun c127 => pLive c127 fun v128 => (ap B H (.toStr (.const v128)) fun v129 _ => cl 28 [x6,v129] H fun v130 H131 => pLive v130 fun v132 => J17_4 B cl n x3 x6 H131 Q))) : J17_5 B cl n x3 x6 H Q := kp (by kernel_rfl) h
theorem J17_4_in {x3 x6 : AV} (h :
 (ap B H (oF 8 x3) fun v133 _ => ob (peek B H v133) fun c134 => pLive c134 fun v135 => cl 43 [x6,v135,.int .i64 512,.func (.func 44) [x6] []] H fun v136 H137 => pLive v136 fun v138 => J17_12 B cl n x6 H137 Q)) : J17_4 B cl n x3 x6 H Q := kp (by kernel_rfl) h
theorem f17_in {x0 : Int} {x1 : AV} (h : fi B H [.int .i64 x0,x1] fun n cl =>
 (ap B H (.box 9 (.const x1)) fun v1 H2 => J17_18 B cl n x0 v1 H2 Q)) : Cl B 17 [.int .i64 x0,x1] H Q := fin rfl h (by kernel_rfl)
theorem J18_9_in {x0 : Int} {x3 : AV} (h :
 bs (decide ((x0 : Int) < 1)) (J18_0 B cl n x0 x3 (.bool true) H Q) (bs (decide ((x0 : Int) > 6)) (J18_0 B cl n x0 x3 (.bool true) H Q) ((ap B H (oF 0 x3) fun v3 _ => ob (peek B H v3) fun c4 => pInt .i64 c4 fun n5 => bs (decide ((n5 : Int) < 0)) (J18_0 B cl n x0 x3 (.bool true) H Q) ((ap B H (oF 0 x3) fun v6 _ => ob (peek B H v6) fun c7 => pInt .i64 c7 fun n8 => ibinK .gtr .i64 n8 10 fun v9 => J18_0 B cl n x0 x3 v9 H Q)))))) : J18_9 B cl n x0 x3 H Q := kp (by simp only [ap,aop_w]; kernel_rfl) h
theorem J18_0_in {x0 : Int} {x3 x25 : AV} (h :
 pBool x25 fun b10 => (if b10 = true then tidyK n Q (.tuple [(.str []),.int .i64 1]) H else J18_8 B cl n x0 x3 H Q)) : J18_0 B cl n x0 x3 x25 H Q := kp (by kernel_rfl) h
theorem J18_8_in {x0 : Int} {x3 : AV} (h :
 (ap B H (oF 0 x3) fun v11 _ => ob (peek B H v11) fun c12 => pInt .i64 c12 fun n13 => ob (layParts [(.int .i64 0),(.int .i64 0),(.int .i64 0),.nils,.nils,.nils,.nils,.nils,.nils] [(0,1,.int .i64 n13)]) fun c14 => (ap B H (.alloc [(.int .i64 0),(.int .i64 0),(.int .i64 0),.nils,.nils,.nils,.nils,.nils,.nils]) fun v15 H16 => (ap B H16 (oS 9 v15 (.agg c14)) fun v17 H18 => J18_7 B cl n x0 x3 v15 H18 Q)))) : J18_8 B cl n x0 x3 H Q := kp (by simp only [ap,aop_w]; kernel_rfl) h
theorem J18_7_in {x0 : Int} {x3 x6 : AV} (h :
 (ap B H (oF 0 x3) fun v19 _ => ob (peek B H v19) fun c20 => pInt .i64 c20 fun n21 => cl 34 [(.str []),.int .i64 n21] H fun v22 H23 => pStr v22 fun s24 => J18_6 B cl n x0 x3 x6 s24 H23 Q)) : J18_7 B cl n x0 x3 x6 H Q := kp (by simp only [ap,aop_w]; kernel_rfl) h
theorem J18_6_in {x0 : Int} {x3 x6 : AV} {x7 : List UInt8} (h :
 J18_5 B cl n x0 x3 x6 x7 true H Q) : J18_6 B cl n x0 x3 x6 x7 H Q := kp (by kernel_rfl) h
theorem J18_5_in {x0 : Int} {x3 x6 : AV} {x7 : List UInt8} {x8 : Bool} (h :
 (ap B H (oF 0 x3) fun v25 _ => ob (peek B H v25) fun c26 => pInt .i64 c26 fun n27 => ibinK .eql .i64 n27 0 fun v28 => J18_1 B cl n x0 x3 x6 x7 x8 v28 H Q)) : J18_5 B cl n x0 x3 x6 x7 x8 H Q := kp (by simp only [ap,aop_w]; kernel_rfl) h
theorem J18_1_in {x0 : Int} {x3 x6 : AV} {x7 : List UInt8} {x8 : Bool} {x34 : AV} (h :
 pBool x34 fun b29 => (if b29 = true then ob (peekN B H 9 x3) fun c30 => cl 45 [.str x7,.int .i64 x0,.agg c30] H fun v31 H32 => pLive v31 fun v33 => (ap B H32 (oX 0 (some .str) v33) fun v34 _ => (ap B H32 (oX 1 none v33) fun v35 _ => (ap B H32 (oX 2 (some .bool) v33) fun v36 _ => (ap B H32 (oS 9 x6 v35) fun v37 H38 => J18_4 B cl n x3 x6 v34 v36 H38 Q)))) else J18_4 B cl n x3 x6 (.str x7) (.bool x8) H Q)) : J18_1 B cl n x0 x3 x6 x7 x8 x34 H Q := kp (by simp only [ap,aop_w]; kernel_rfl) h
theorem J18_4_in {x3 x6 x7 x8 : AV} (h :
 ob (peekN B H 9 x6) fun c39 => ob (peekN B H 9 x3) fun c40 => cl 19 [.agg c39,.agg c40] H fun v41 H42 => tyK .bool v41 fun v43 => J18_3 B cl n x7 x8 v43 H42 Q) : J18_4 B cl n x3 x6 x7 x8 H Q := kp (by kernel_rfl) h
theorem J18_3_in {x7 x8 x9 : AV} (h :
 pBool x8 fun b44 => bs b44 (pBool x9 fun b45 => bs b45 (J18_2 B cl n x7 H Q) (tidyK n Q (.tuple [(.str []),.int .i64 1]) H)) (tidyK n Q (.tuple [(.str []),.int .i64 1]) H)) : J18_3 B cl n x7 x8 x9 H Q := kp (by kernel_rfl) h
theorem J18_2_in {x7 : AV} (h :
 tidyK n Q (.tuple [x7,.int .i64 0]) H) : J18_2 B cl n x7 H Q := kp (by kernel_rfl) h
theorem f18_in {x0 : Int} {x1 : AV} (h : fi B H [.int .i64 x0,x1] fun n cl =>
 (ap B H (.box 9 (.const x1)) fun v1 H2 => J18_9 B cl n x0 v1 H2 Q)) : Cl B 18 [.int .i64 x0,x1] H Q := fin rfl h (by simp only [ap,aop_w]; kernel_rfl)
theorem J19_8_in {x2 x3 : AV} (h :
 (ap B H (oF 3 x2) fun v5 _ => ob (peekN B H 2 v5) fun c6 => (ap B H (oF 3 x3) fun v7 _ => ob (peekN B H 2 v7) fun c8 => cl 46 [.agg c6,.agg c8] H fun v9 H10 => tyK .bool v9 fun v11 => J19_7 B cl n x2 x3 v11 H10 Q))) : J19_8 B cl n x2 x3 H Q := kp (by kernel_rfl) h
theorem J19_7_in {x2 x3 x5 : AV} (h :
 (ap B H (oF 5 x2) fun v12 _ => ob (peekN B H 2 v12) fun c13 => (ap B H (oF 5 x3) fun v14 _ => ob (peekN B H 2 v14) fun c15 => cl 47 [.agg c13,.agg c15] H fun v16 H17 => tyK .bool v16 fun v18 => J19_6 B cl n x2 x3 x5 v18 H17 Q))) : J19_7 B cl n x2 x3 x5 H Q := kp (by kernel_rfl) h
theorem J19_6_in {x2 x3 x5 x6 : AV} (h :
 pBool x5 fun b19 => bs b19 (pBool x6 fun b20 => bs b20 ((ap B H (oF 8 x2) fun v21 _ => ob (peek B H v21) fun c22 => pLive c22 fun v23 => ob (lenOf v23) fun k24 => (ap B H (oF 8 x3) fun v25 _ => ob (peek B H v25) fun c26 => pLive c26 fun v27 => ob (lenOf v27) fun k28 => ibinK .neq .i64 (k24 : Int) (k28 : Int) fun v29 => J19_0 B cl n x2 x3 v29 H Q))) (J19_0 B cl n x2 x3 (.bool true) H Q)) (J19_0 B cl n x2 x3 (.bool true) H Q)) : J19_6 B cl n x2 x3 x5 x6 H Q := kp (by kernel_rfl) h
theorem J19_0_in {x2 x3 x33 : AV} (h :
 pBool x33 fun b30 => (if b30 = true then tidyK n Q (.bool false) H else J19_5 B cl n x2 x3 H Q)) : J19_0 B cl n x2 x3 x33 H Q := kp (by kernel_rfl) h
theorem J19_5_in {x2 x3 : AV} (h :
 L19_3 B cl n x2 x3 0 H Q) : J19_5 B cl n x2 x3 H Q := kp (by kernel_rfl) h
theorem L19_3_in {x2 x3 : AV} {x7 : Int} (hcl : CLe cl cl) (h :
 (ap B H (oF 8 x2) fun v31 _ => ob (peek B H v31) fun c32 => pLive c32 fun v33 => ob (lenOf v33) fun k34 => bs (decide ((x7 : Int) < (k34 : Int))) (J19_2 B cl n x2 x3 x7 H Q) (J19_4 B cl n x2 x3 H Q))) : L19_3 B cl n x2 x3 x7 H Q := ALoop.round2 hcl rfl (Eq.mpr (by kernel_rfl) h)
theorem J19_2_in {x2 x3 : AV} {x7 : Int} (h :
 (ap B H (oF 8 x2) fun v35 _ => ob (peek B H v35) fun c36 => pLive c36 fun v37 => (ap B H (oI 1 v37 (.int .i64 x7)) fun v38 _ => ob (peek B H v38) fun c39 => pLive c39 fun v40 => (ap B H (oF 8 x3) fun v41 _ => ob (peek B H v41) fun c42 => pLive c42 fun v43 => (ap B H (oI 1 v43 (.int .i64 x7)) fun v44 _ => ob (peek B H v44) fun c45 => pLive c45 fun v46 => cl 35 [v40,v46] H fun v47 H48 => tyK .bool v47 fun v49 => J19_1 B cl n x2 x3 x7 v49 H48 Q))))) : J19_2 B cl n x2 x3 x7 H Q := kp (by kernel_rfl) h
theorem J19_4_in {x2 x3 : AV} (h :
 (ap B H (oF 0 x2) fun v50 _ => ob (peek B H v50) fun c51 => pInt .i64 c51 fun n52 => (ap B H (oF 0 x3) fun v53 _ => ob (peek B H v53) fun c54 => pInt .i64 c54 fun n55 => bs ((n52 : Int) == n55) ((ap B H (oF 1 x2) fun v56 _ => ob (peek B H v56) fun c57 => pInt .i64 c57 fun n58 => (ap B H (oF 1 x3) fun v59 _ => ob (peek B H v59) fun c60 => pInt .i64 c60 fun n61 => bs ((n58 : Int) == n61) ((ap B H (oF 2 x2) fun v62 _ => ob (peek B H v62) fun c63 => pInt .i64 c63 fun n64 => (ap B H (oF 2 x3) fun v65 _ => ob (peek B H v65) fun c66 => pInt .i64 c66 fun n67 => bs ((n64 : Int) == n67) ((ap B H (oF 7 x2) fun v68 _ => ob (peek B H v68) fun c69 => pLive c69 fun v70 => (ap B H (.toStr (.const v70)) fun v71 _ => (ap B H (oF 7 x3) fun v72 _ => ob (peek B H v72) fun c73 => pLive c73 fun v74 => (ap B H (.toStr (.const v74)) fun v75 _ => pStr v71 fun s76 => pStr v75 fun s77 => sbinK .eql s76 s77 fun v78 => tidyK n Q v78 H))))) (tidyK n Q (.bool false) H)))) (tidyK n Q (.bool false) H)))) (tidyK n Q (.bool false) H)))) : J19_4 B cl n x2 x3 H Q := kp (by kernel_rfl) h
theorem J19_1_in {x2 x3 : AV} {x7 : Int} {x8 : AV} (h :
 pBool x8 fun b79 => bs b79 (L19_3 B cl n x2 x3 (IntKind.i64.wrap (x7 + 1)) H Q) (tidyK n Q (.bool false) H)) : J19_1 B cl n x2 x3 x7 x8 H Q := kp (by kernel_rfl) h
theorem f19_in {x0 x1 : AV} (h : fi B H [x0,x1] fun n cl =>
 (ap B H (.box 9 (.const x0)) fun v1 H2 => (ap B H2 (.box 9 (.const x1)) fun v3 H4 => J19_8 B cl n v1 v3 H4 Q))) : Cl B 19 [x0,x1] H Q := fin rfl h (by kernel_rfl)
theorem J20_10_in {x0 x2 : AV} (h :
 ob (lenOf x0) fun k3 => bs (((k3 : Int) : Int) == 0) (ob (layParts [(.int .i64 0),.nils,(.str []),(.str []),(.str []),(.int .i64 0)] []) fun c4 => (ap B H (oS 6 x2 (.agg c4)) fun v5 H6 => ob (peekN B H6 6 x2) fun c7 => tidyK n Q (.tuple [.agg c7,.int .i64 2]) H6)) (J20_9 B cl n x0 x2 H Q)) : J20_10 B cl n x0 x2 H Q := kp (by kernel_rfl) h
theorem J20_9_in {x0 x2 : AV} (h :
 (ap B H (.sliceL 1 (.const x0) (some (.const (.int .i64 1))) none none) fun v8 _ => ob (layParts [.nils,(.bool false)] [(0,1,v8)]) fun c9 => (ap B H (.box 2 (.const (.agg c9))) fun v10 H11 => J20_8 B cl n x0 x2 v10 H11 Q))) : J20_9 B cl n x0 x2 H Q := kp (by kernel_rfl) h
theorem J20_8_in {x0 x2 x4 : AV} (h :
 (ap B H (oI 1 x0 (.int .i64 0)) fun v12 _ => ob (peek B H v12) fun c13 => pInt .u8 c13 fun n14 => ob (layParts [(.int .i64 0),.nils,(.str []),(.str []),(.str []),(.int .i64 0)] [(0,1,.int .i64 (IntKind.i64.wrap n14))]) fun c15 => (ap B H (.alloc [(.int .i64 0),.nils,(.str []),(.str []),(.str []),(.int .i64 0)]) fun v16 H17 => (ap B H17 (oS 6 v16 (.agg c15)) fun v18 H19 => J20_7 B cl n x0 x2 x4 v16 H19 Q)))) : J20_8 B cl n x0 x2 x4 H Q := kp (by kernel_rfl) h
theorem J20_7_in {x0 x2 x4 x5 : AV} (h :
 (ap B H (oF 0 x5) fun v20 _ => ob (peek B H v20) fun c21 => pInt .i64 c21 fun n22 => J20_3 B cl n x0 x2 x4 x5 n22 H Q)) : J20_7 B cl n x0 x2 x4 x5 H Q := kp (by kernel_rfl) h
theorem J20_3_in {x0 x2 x4 x5 : AV} {x22 : Int} (h :
 ibinK .eql .i64 x22 1 fun v23 => J20_2 B cl n x0 x2 x4 x5 x22 v23 H Q) : J20_3 B cl n x0 x2 x4 x5 x22 H Q := kp (by kernel_rfl) h
theorem J20_2_in {x0 x2 x4 x5 : AV} {x22 : Int} {x23 : AV} (h :
 pBool x23 fun b24 => (if b24 = true then cl 48 [x4,.int .i64 32,.func (.func 49) [x4] []] H fun v25 H26 => pLive v25 fun v27 => (ap B H26 (oF 1 x5) fun v28 _ => (ap B H26 (oS 1 v28 v27) fun v29 H30 => J20_6 B cl n x0 x2 x4 x5 H30 Q)) else ibinK .eql .i64 x22 2 fun v31 => J20_1 B cl n x0 x2 x4 x5 x22 v31 H Q)) : J20_2 B cl n x0 x2 x4 x5 x22 x23 H Q := kp (by kernel_rfl) h
theorem J20_6_in {x0 x2 x4 x5 : AV} (h :
 ob (peekN B H 6 x5) fun c32 => cl 13 [.agg c32] H fun v33 H34 => pLive v33 fun v35 => (ap B H34 (oX 0 (some .other) v35) fun v36 _ => (ap B H34 (oX 1 (some (.int .i64)) v35) fun v37 _ => J20_5 B cl n x0 x2 x4 x5 v36 v37 H34 Q))) : J20_6 B cl n x0 x2 x4 x5 H Q := kp (by kernel_rfl) h
theorem J20_1_in {x0 x2 x4 x5 : AV} {x22 : Int} {x30 : AV} (h :
 pBool x30 fun b38 => (if b38 = true then cl 50 [x4] H fun v39 H40 => pStr v39 fun s41 => (ap B H40 (oF 2 x5) fun v42 _ => (ap B H40 (oS 1 v42 (.str s41)) fun v43 H44 => J20_6 B cl n x0 x2 x4 x5 H44 Q)) else bs ((x22 : Int) == 3) (cl 50 [x4] H fun v45 H46 => pStr v45 fun s47 => (ap B H46 (oF 3 x5) fun v48 _ => (ap B H46 (oS 1 v48 (.str s47)) fun v49 H50 => cl 50 [x4] H50 fun v51 H52 => pStr v51 fun s53 => (ap B H52 (oF 4 x5) fun v54 _ => (ap B H52 (oS 1 v54 (.str s53)) fun v55 H56 => J20_6 B cl n x0 x2 x4 x5 H56 Q))))) (bs ((x22 : Int) == 4) (J20_0 B cl n x0 x2 x4 x5 (.bool true) H Q) (ibinK .eql .i64 x22 5 fun v57 => J20_0 B cl n x0 x2 x4 x5 v57 H Q)))) : J20_1 B cl n x0 x2 x4 x5 x22 x30 H Q := kp (by kernel_rfl) h
theorem J20_5_in {x0 x2 x4 x5 x6 x7 : AV} (h :
 (ap B H (oN x4) fun v58 _ => (ap B H (oF 1 v58) fun v59 _ => ob (peek B H v59) fun c60 => pBool c60 fun b61 => bs b61 (J20_4 B cl n x2 x5 (.bool true) H Q) (cl 52 [x6,x7,x0] H fun v62 H63 => tyK .bool v62 fun v64 => (ap B H63 (.not (.const v64)) fun v65 _ => J20_4 B cl n x2 x5 v65 H63 Q))))) : J20_5 B cl n x0 x2 x4 x5 x6 x7 H Q := kp (by kernel_rfl) h
theorem J20_0_in {x0 x2 x4 x5 x43 : AV} (h :
 pBool x43 fun b66 => (if b66 = true then cl 51 [x4,.int .i64 1099511627776] H fun v67 H68 => pInt .i64 v67 fun n69 => (ap B H68 (oF 5 x5) fun v70 _ => (ap B H68 (oS 1 v70 (.int .i64 n69)) fun v71 H72 => J20_6 B cl n x0 x2 x4 x5 H72 Q)) else J20_6 B cl n x0 x2 x4 x5 H Q)) : J20_0 B cl n x0 x2 x4 x5 x43 H Q := kp (by kernel_rfl) h
theorem J20_4_in {x2 x5 x64 : AV} (h :
 pBool x64 fun b73 => (if b73 = true then ob (layParts [(.int .i64 0),.nils,(.str []),(.str []),(.str []),(.int .i64 0)] []) fun c74 => (ap B H (oS 6 x2 (.agg c74)) fun v75 H76 => ob (peekN B H76 6 x2) fun c77 => tidyK n Q (.tuple [.agg c77,.int .i64 2]) H76) else ob (peekN B H 6 x5) fun c78 => (ap B H (oS 6 x2 (.agg c78)) fun v79 H80 => ob (peekN B H80 6 x2) fun c81 => tidyK n Q (.tuple [.agg c81,.int .i64 0]) H80))) : J20_4 B cl n x2 x5 x64 H Q := kp (by kernel_rfl) h
theorem f20_in {x0 : AV} (h : fi B H [x0] fun n cl =>
 (ap B H (.alloc [(.int .i64 0),.nils,(.str []),(.str []),(.str []),(.int .i64 0)]) fun v1 H2 => J20_10 B cl n x0 v1 H2 Q)) : Cl B 20 [x0] H Q := fin rfl h (by kernel_rfl)
end Go.Am
