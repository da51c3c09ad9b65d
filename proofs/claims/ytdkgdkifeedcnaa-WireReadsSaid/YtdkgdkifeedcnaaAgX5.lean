/- What the functions of the seat do,from label to label. -/
import Derived.Test.YtdkgdkifeedcnaaAf
namespace Go.Am
open Go
set_option maxRecDepth 100000
variable (B : Base) (cl : CallK) (n : Nat)
def k47_0 (Q : Po) : KQ := (AExit.thenK (fun e h => awC B cl (ALoop n) (.seq (.seq (.ops [⟨(some 5),none,(.op (.mov (.const (.int .i64 0))))⟩]) (.block 0 c47_3)) c47_4) e h (fnQ B a47 (tidyK n Q))) (fnQ B a47 (tidyK n Q)))
def k47_1 (Q : Po) : KQ := kt B cl n a47 c47_4 Q
def k47_2 (Q : Po) : KQ := (AExit.blockK 0 (k47_1 B cl n Q))
def k47_3 (Q : Po) : KQ := (AExit.thenK (fun e h => awC B cl (ALoop n) c47_3 e h (k47_2 B cl n Q)) (k47_2 B cl n Q))
def k47_4 (Q : Po) : KQ := (AExit.thenK (fun e h => awC B cl (ALoop n) (.ops [⟨(some 28),none,(.op (.mov (.tmp 5)))⟩,⟨(some 29),none,(.op (.ibin .add .i64 (.tmp 28) (.const (.int .i64 1))))⟩,⟨(some 5),none,(.op (.mov (.tmp 29)))⟩]) e h (k47_3 B cl n Q)) (k47_3 B cl n Q))
def k47_5 (Q : Po) : KQ := (AExit.blockK 1 (k47_4 B cl n Q))
def k48_0 (Q : Po) : KQ := kt B cl n a48 c48_1 Q
def k48_1 (Q : Po) : KQ := (AExit.blockK 0 (k48_0 B cl n Q))
def k53_0 (Q : Po) : KQ := kt B cl n a53 c53_6 Q
def k53_1 (Q : Po) : KQ := (AExit.blockK 0 (k53_0 B cl n Q))
def k53_2 (Q : Po) : KQ := (AExit.thenK (fun e h => awC B cl (ALoop n) c53_5 e h (k53_1 B cl n Q)) (k53_1 B cl n Q))
def k53_3 (Q : Po) : KQ := (AExit.thenK (fun e h => awC B cl (ALoop n) c53_3 e h (k53_2 B cl n Q)) (k53_2 B cl n Q))
def k53_4 (Q : Po) : KQ := (AExit.blockK 1 (k53_3 B cl n Q))
def k54_0 (Q : Po) : KQ := kt B cl n a54 c54_2 Q
def k55_0 (Q : Po) : KQ := kt B cl n a55 c55_2 Q
def k56_0 (B : Base) (cl : CallK) (n : Nat) (Q : AV → Heap → Prop) : KQ := (AExit.blockK 0 (fnQ B a56 (tidyK n Q)))
def k58_0 (Q : Po) : KQ := kt B cl n a58 c58_3 Q
def k58_1 (Q : Po) : KQ := (AExit.blockK 0 (k58_0 B cl n Q))
def k58_2 (Q : Po) : KQ := (AExit.thenK (fun e h => awC B cl (ALoop n) c58_2 e h (k58_1 B cl n Q)) (k58_1 B cl n Q))
def k62_0 (Q : Po) : KQ := kt B cl n a62 c62_1 Q
def k62_1 (Q : Po) : KQ := (AExit.blockK 0 (k62_0 B cl n Q))
def k64_0 (Q : Po) : KQ := kt B cl n a64 c64_1 Q
def k66_0 (Q : Po) : KQ := kt B cl n a66 c66_1 Q
def k66_1 (Q : Po) : KQ := (AExit.blockK 0 (k66_0 B cl n Q))
def k70_0 (B : Base) (cl : CallK) (n : Nat) (Q : AV → Heap → Prop) : KQ := (AExit.blockK 0 (fnQ B a70 (tidyK n Q)))
def k72_0 (B : Base) (cl : CallK) (n : Nat) (Q : AV → Heap → Prop) : KQ := (AExit.blockK 0 (fnQ B a72 (tidyK n Q)))
def J47_5 (x2 x3 : AV) (H : Heap) (Q : Po) := jn B cl n a47 c47_5 (ev 43 [(2,x2),(3,x3)]) H Q
def J47_0 (x2 x3 x22 : AV) (H : Heap) (Q : Po) := jw B cl n c47_0 (ev 43 [(2,x2),(3,x3),(22,x22)]) H (k47_0 B cl n Q)
def L47_3 (x2 x3 : AV) (x5 : Int) (H : Heap) (Q : Po) := jw B cl n c47_3 (ev 43 [(2,x2),(3,x3),(5,.int .i64 x5)]) H (k47_2 B cl n Q)
def J47_2 (x2 x3 : AV) (x5 : Int) (H : Heap) (Q : Po) := jw B cl n c47_2 (ev 43 [(2,x2),(3,x3),(5,.int .i64 x5)]) H (k47_3 B cl n Q)
def J47_4 (H : Heap) (Q : Po) := jn B cl n a47 c47_4 (ev 43 []) H Q
def J47_1 (x2 x3 : AV) (x5 : Int) (x6 : AV) (H : Heap) (Q : Po) := jw B cl n c47_1 (ev 43 [(2,x2),(3,x3),(5,.int .i64 x5),(6,x6)]) H (k47_5 B cl n Q)
def L48_0 (x0 x2 x7 : AV) (x10 x11 : Int) (H : Heap) (Q : Po) := jw B cl n c48_0 (ev 24 [(0,x0),(2,x2),(7,x7),(10,.int .i64 x10),(11,.int .i64 x11)]) H (k48_1 B cl n Q)
def J48_1 (x7 : AV) (H : Heap) (Q : Po) := jn B cl n a48 c48_1 (ev 24 [(7,x7)]) H Q
def L53_5 (x0 : AV) (x5 : Int) (x6 : AV) (x7 : Int) (H : Heap) (Q : Po) := jw B cl n c53_5 (ev 54 [(0,x0),(5,.int .i64 x5),(6,x6),(7,.int .i64 x7)]) H (k53_1 B cl n Q)
def J53_6 (x6 : AV) (H : Heap) (Q : Po) := jn B cl n a53 c53_6 (ev 54 [(6,x6)]) H Q
def J53_4 (x0 : AV) (x5 : Int) (x6 : AV) (x7 : Int) (H : Heap) (Q : Po) := jw B cl n c53_4 (ev 54 [(0,x0),(5,.int .i64 x5),(6,x6),(7,.int .i64 x7)]) H (k53_2 B cl n Q)
def J53_2 (x0 : AV) (x5 : Int) (x6 : AV) (x7 : Int) (x8 x9 x10 : AV) (H : Heap) (Q : Po) := jw B cl n c53_2 (ev 54 [(0,x0),(5,.int .i64 x5),(6,x6),(7,.int .i64 x7),(8,x8),(9,x9),(10,x10)]) H (k53_4 B cl n Q)
def J53_1 (x0 : AV) (x5 : Int) (x6 : AV) (x7 : Int) (x8 x9 : AV) (H : Heap) (Q : Po) := jw B cl n c53_1 (ev 54 [(0,x0),(5,.int .i64 x5),(6,x6),(7,.int .i64 x7),(8,x8),(9,x9)]) H (k53_4 B cl n Q)
def J53_0 (x0 : AV) (x5 : Int) (x6 : AV) (x7 : Int) (x9 : AV) (H : Heap) (Q : Po) := jw B cl n c53_0 (ev 54 [(0,x0),(5,.int .i64 x5),(6,x6),(7,.int .i64 x7),(9,x9)]) H (k53_4 B cl n Q)
def J53_3 (x0 : AV) (x5 : Int) (x6 : AV) (x7 : Int) (H : Heap) (Q : Po) := jw B cl n c53_3 (ev 54 [(0,x0),(5,.int .i64 x5),(6,x6),(7,.int .i64 x7)]) H (k53_2 B cl n Q)
def J54_4 (x0 : AV) (H : Heap) (Q : Po) := jn B cl n a54 c54_4 (ev 36 [(0,x0)]) H Q
def J54_3 (x0 x3 x4 x5 : AV) (H : Heap) (Q : Po) := jn B cl n a54 c54_3 (ev 36 [(0,x0),(3,x3),(4,x4),(5,x5)]) H Q
def J54_0 (x0 x3 x4 x22 : AV) (H : Heap) (Q : Po) := jw B cl n c54_0 (ev 36 [(0,x0),(3,x3),(4,x4),(22,x22)]) H (k54_0 B cl n Q)
def J54_2 (x0 x3 x4 : AV) (H : Heap) (Q : Po) := jn B cl n a54 c54_2 (ev 36 [(0,x0),(3,x3),(4,x4)]) H Q
def J54_1 (x3 : AV) (H : Heap) (Q : Po) := jn B cl n a54 c54_1 (ev 36 [(3,x3)]) H Q
def J55_4 (x0 : AV) (x1 : Int) (H : Heap) (Q : Po) := jn B cl n a55 c55_4 (ev 45 [(0,x0),(1,.int .i64 x1)]) H Q
def J55_3 (x0 : AV) (x1 : Int) (x5 x6 x7 : AV) (H : Heap) (Q : Po) := jn B cl n a55 c55_3 (ev 45 [(0,x0),(1,.int .i64 x1),(5,x5),(6,x6),(7,x7)]) H Q
def J55_0 (x0 x5 x6 x30 : AV) (H : Heap) (Q : Po) := jw B cl n c55_0 (ev 45 [(0,x0),(5,x5),(6,x6),(30,x30)]) H (k55_0 B cl n Q)
def J55_2 (x0 x5 x6 : AV) (H : Heap) (Q : Po) := jn B cl n a55 c55_2 (ev 45 [(0,x0),(5,x5),(6,x6)]) H Q
def J55_1 (x5 : AV) (H : Heap) (Q : Po) := jn B cl n a55 c55_1 (ev 45 [(5,x5)]) H Q
def J56_9 (x0 x2 : AV) (x6 : Int) (H : Heap) (Q : Po) := jn B cl n a56 c56_9 (ev 85 [(0,x0),(2,x2),(6,.int .i64 x6)]) H Q
def J56_8 (x0 x2 : AV) (x6 : Int) (x7 : AV) (H : Heap) (Q : Po) := jw B cl n c56_8 (ev 85 [(0,x0),(2,x2),(6,.int .i64 x6),(7,x7)]) H (k56_0 B cl n Q)
def J56_7 (x0 x2 : AV) (x6 : Int) (x14 : AV) (H : Heap) (Q : Po) := jw B cl n c56_7 (ev 85 [(0,x0),(2,x2),(6,.int .i64 x6),(14,x14)]) H (k56_0 B cl n Q)
def J56_6 (x0 x2 : AV) (x6 : Int) (x27 : AV) (H : Heap) (Q : Po) := jw B cl n c56_6 (ev 85 [(0,x0),(2,x2),(6,.int .i64 x6),(27,x27)]) H (k56_0 B cl n Q)
def J56_5 (x0 x2 : AV) (x6 : Int) (x40 : AV) (H : Heap) (Q : Po) := jw B cl n c56_5 (ev 85 [(0,x0),(2,x2),(6,.int .i64 x6),(40,x40)]) H (k56_0 B cl n Q)
def J56_0 (x0 x2 : AV) (H : Heap) (Q : Po) := jw B cl n c56_0 (ev 85 [(0,x0),(2,x2)]) H (k56_0 B cl n Q)
def J56_4 (x0 x2 : AV) (x6 : Int) (x53 : AV) (H : Heap) (Q : Po) := jw B cl n c56_4 (ev 85 [(0,x0),(2,x2),(6,.int .i64 x6),(53,x53)]) H (k56_0 B cl n Q)
def J56_2 (x0 x2 : AV) (H : Heap) (Q : Po) := jw B cl n c56_2 (ev 85 [(0,x0),(2,x2)]) H (k56_0 B cl n Q)
def J56_3 (x0 x2 x73 : AV) (H : Heap) (Q : Po) := jw B cl n c56_3 (ev 85 [(0,x0),(2,x2),(73,x73)]) H (k56_0 B cl n Q)
def J56_1 (x0 x2 : AV) (H : Heap) (Q : Po) := jw B cl n c56_1 (ev 85 [(0,x0),(2,x2)]) H (k56_0 B cl n Q)
def J57_0 (x2 x4 : AV) (H : Heap) (Q : Po) := jn B cl n a57 c57_0 (ev 17 [(2,x2),(4,x4)]) H Q
def J58_5 (x0 x2 : AV) (H : Heap) (Q : Po) := jn B cl n a58 c58_5 (ev 37 [(0,x0),(2,x2)]) H Q
def J58_4 (x0 x2 x3 : AV) (H : Heap) (Q : Po) := jn B cl n a58 c58_4 (ev 37 [(0,x0),(2,x2),(3,x3)]) H Q
def L58_2 (x0 x2 x3 : AV) (x4 x5 : Int) (H : Heap) (Q : Po) := jw B cl n c58_2 (ev 37 [(0,x0),(2,x2),(3,x3),(4,.int .i64 x4),(5,.int .i64 x5)]) H (k58_1 B cl n Q)
def J58_3 (x0 x2 x3 : AV) (H : Heap) (Q : Po) := jn B cl n a58 c58_3 (ev 37 [(0,x0),(2,x2),(3,x3)]) H Q
def J58_1 (x0 x2 x3 : AV) (x4 x5 : Int) (H : Heap) (Q : Po) := jw B cl n c58_1 (ev 37 [(0,x0),(2,x2),(3,x3),(4,.int .i64 x4),(5,.int .i64 x5)]) H (k58_2 B cl n Q)
def J58_0 (x0 x2 x3 : AV) (x4 x5 : Int) (H : Heap) (Q : Po) := jw B cl n c58_0 (ev 37 [(0,x0),(2,x2),(3,x3),(4,.int .i64 x4),(5,.int .i64 x5)]) H (k58_2 B cl n Q)
def J59_0 (x1 : AV) (H : Heap) (Q : Po) := jn B cl n a59 c59_0 (ev 38 [(1,x1)]) H Q
def J60_1 (x1 x3 : AV) (H : Heap) (Q : Po) := jn B cl n a60 c60_1 (ev 28 [(1,x1),(3,x3)]) H Q
def J60_0 (x3 : AV) (H : Heap) (Q : Po) := jn B cl n a60 c60_0 (ev 28 [(3,x3)]) H Q
def L62_0 (x0 x1 : AV) (H : Heap) (Q : Po) := jw B cl n c62_0 (ev 26 [(0,x0),(1,x1)]) H (k62_1 B cl n Q)
def J62_1 (x0 x1 : AV) (H : Heap) (Q : Po) := jn B cl n a62 c62_1 (ev 26 [(0,x0),(1,x1)]) H Q
def J63_0 (x1 : AV) (H : Heap) (Q : Po) := jn B cl n a63 c63_0 (ev 39 [(1,x1)]) H Q
def J64_4 (x1 : AV) (H : Heap) (Q : Po) := jn B cl n a64 c64_4 (ev 31 [(1,x1)]) H Q
def J64_3 (x1 x3 : AV) (H : Heap) (Q : Po) := jn B cl n a64 c64_3 (ev 31 [(1,x1),(3,x3)]) H Q
def J64_2 (x1 : AV) (H : Heap) (Q : Po) := jn B cl n a64 c64_2 (ev 31 [(1,x1)]) H Q
def J64_0 (x1 x9 : AV) (H : Heap) (Q : Po) := jw B cl n c64_0 (ev 31 [(1,x1),(9,x9)]) H (k64_0 B cl n Q)
def J64_1 (x1 : AV) (H : Heap) (Q : Po) := jn B cl n a64 c64_1 (ev 31 [(1,x1)]) H Q
def L66_0 (x0 : AV) (x1 : Int) (H : Heap) (Q : Po) := jw B cl n c66_0 (ev 23 [(0,x0),(1,.int .u64 x1)]) H (k66_1 B cl n Q)
def J66_1 (x0 : AV) (x1 : Int) (H : Heap) (Q : Po) := jn B cl n a66 c66_1 (ev 23 [(0,x0),(1,.int .u64 x1)]) H Q
def L70_0 (x3 x20 : AV) (x21 x22 : Int) (H : Heap) (Q : Po) := jw B cl n c70_0 (ev 30 [(3,x3),(20,x20),(21,.int .i64 x21),(22,.int .i64 x22)]) H (k70_0 B cl n Q)
def L72_0 (x3 x20 : AV) (x21 x22 : Int) (H : Heap) (Q : Po) := jw B cl n c72_0 (ev 30 [(3,x3),(20,x20),(21,.int .i64 x21),(22,.int .i64 x22)]) H (k72_0 B cl n Q)
variable {B cl n} {H : Heap} {Q : Po}
theorem J47_5_in {x2 x3 : AV} (h :
 (ap B H (oF 0 x2) fun v5 _ => ob (peek B H v5) fun c6 => pLive c6 fun v7 => (ap B H (.toStr (.const v7)) fun v8 _ => (ap B H (oF 0 x3) fun v9 _ => ob (peek B H v9) fun c10 => pLive c10 fun v11 => (ap B H (.toStr (.const v11)) fun v12 _ => pStr v8 fun s13 => pStr v12 fun s14 => bs (!(s13 == s14)) (J47_0 B cl n x2 x3 (.bool true) H Q) ((ap B H (oF 1 x2) fun v15 _ => ob (peek B H v15) fun c16 => pLive c16 fun v17 => ob (lenOf v17) fun k18 => (ap B H (oF 1 x3) fun v19 _ => ob (peek B H v19) fun c20 => pLive c20 fun v21 => ob (lenOf v21) fun k22 => ibinK .neq .i64 (k18 : Int) (k22 : Int) fun v23 => J47_0 B cl n x2 x3 v23 H Q)))))))) : J47_5 B cl n x2 x3 H Q := kp (by kernel_rfl) h
theorem J47_0_in {x2 x3 x22 : AV} (h :
 pBool x22 fun b24 => (if b24 = true then tidyK n Q (.bool false) H else L47_3 B cl n x2 x3 0 H Q)) : J47_0 B cl n x2 x3 x22 H Q := kp (by kernel_rfl) h
theorem L47_3_in {x2 x3 : AV} {x5 : Int} (hcl : CLe cl cl) (h :
 (ap B H (oF 1 x2) fun v25 _ => ob (peek B H v25) fun c26 => pLive c26 fun v27 => ob (lenOf v27) fun k28 => bs (decide ((x5 : Int) < (k28 : Int))) (J47_2 B cl n x2 x3 x5 H Q) (J47_4 B cl n H Q))) : L47_3 B cl n x2 x3 x5 H Q := ALoop.round2 hcl rfl (Eq.mpr (by kernel_rfl) h)
theorem J47_2_in {x2 x3 : AV} {x5 : Int} (h :
 (ap B H (oF 1 x2) fun v29 _ => ob (peek B H v29) fun c30 => pLive c30 fun v31 => (ap B H (oI 3 v31 (.int .i64 x5)) fun v32 _ => ob (peekN B H 3 v32) fun c33 => (ap B H (oF 1 x3) fun v34 _ => ob (peek B H v34) fun c35 => pLive c35 fun v36 => (ap B H (oI 3 v36 (.int .i64 x5)) fun v37 _ => ob (peekN B H 3 v37) fun c38 => cl 77 [.agg c33,.agg c38] H fun v39 H40 => tyK .bool v39 fun v41 => J47_1 B cl n x2 x3 x5 v41 H40 Q))))) : J47_2 B cl n x2 x3 x5 H Q := kp (by kernel_rfl) h
theorem J47_4_in (h :
 tidyK n Q (.bool true) H) : J47_4 B cl n  H Q := kp (by kernel_rfl) h
theorem J47_1_in {x2 x3 : AV} {x5 : Int} {x6 : AV} (h :
 pBool x6 fun b42 => bs b42 (L47_3 B cl n x2 x3 (IntKind.i64.wrap (x5 + 1)) H Q) (tidyK n Q (.bool false) H)) : J47_1 B cl n x2 x3 x5 x6 H Q := kp (by kernel_rfl) h
theorem f47_in {x0 x1 : AV} (h : fi B H [x0,x1] fun n cl =>
 (ap B H (.box 2 (.const x0)) fun v1 H2 => (ap B H2 (.box 2 (.const x1)) fun v3 H4 => J47_5 B cl n v1 v3 H4 Q))) : Cl B 47 [x0,x1] H Q := fin rfl h (by kernel_rfl)
theorem L48_0_in {x0 x2 x7 : AV} {x10 x11 : Int} (hcl : CLe cl cl) (h :
 bs (decide ((x11 : Int) < x10)) ((ap B H (oN x0) fun v4 _ => (ap B H (oF 1 v4) fun v5 _ => ob (peek B H v5) fun c6 => pBool c6 fun b7 => bs b7 (tidyK n Q (.nils) H) (calleeK B E0 H [] (fun g10 z11 => cl g10 z11 H fun v8 H9 => pLive v8 fun v12 => ob (layParts [(.str []),(.str []),(.bool false),(.int .i64 0)] [(0,4,v12)]) fun c13 => slK H9 4 1 c13 fun v14 H15 => (ap B H15 (oA 4 48 x7 v14) fun v16 H17 => L48_0 B cl n x0 x2 v16 x10 (IntKind.i64.wrap (x11 + 1)) H17 Q)) (.val (.const x2)))))) (J48_1 B cl n x7 H Q)) : L48_0 B cl n x0 x2 x7 x10 x11 H Q := ALoop.round2 hcl rfl (Eq.mpr (by kernel_rfl) h)
theorem J48_1_in {x7 : AV} (h :
 tidyK n Q x7 H) : J48_1 B cl n x7 H Q := kp (by kernel_rfl) h
theorem f48_in {x0 : AV} {x1 : Int} {x2 : AV} (h : fi B H [x0,.int .i64 x1,x2] fun n cl =>
 cl 51 [x0,.int .i64 x1] H fun v1 H2 => pInt .i64 v1 fun n3 => L48_0 B cl n x0 x2 .nils n3 0 H2 Q) : Cl B 48 [x0,.int .i64 x1,x2] H Q := fin rfl h (by kernel_rfl)
theorem f49_in {x0 : AV} (h : fi B H [x0] fun n cl =>
 (ap B H (.alloc [(.str []),(.str []),(.bool false),(.int .i64 0)]) fun v1 H2 => (ap B H2 (oN x0) fun v3 _ => (ap B H2 (oF 0 v3) fun v4 _ => ob (peek B H2 v4) fun c5 => pLive c5 fun v6 => cl 78 [v6] H2 fun v7 H8 => pLive v7 fun v9 => (ap B H8 (oX 0 none v9) fun v10 _ => (ap B H8 (oX 1 (some (.int .i64)) v9) fun v11 _ => (ap B H8 (oX 2 (some (.int .i64)) v9) fun v12 _ => (ap B H8 (.alloc [(.str []),(.str []),(.bool false),(.int .i64 0)]) fun v13 H14 => (ap B H14 (oS 4 v13 v10) fun v15 H16 => pInt .i64 v12 fun n17 => ibinK .eql .i64 n17 0 fun v18 => cl 79 [x0,v11,v18] H16 fun v19 H20 => tyK .bool v19 fun v21 => ob (peekN B H20 4 v13) fun c22 => (ap B H20 (oS 4 v1 (.agg c22)) fun v23 H24 => ob (peekN B H24 4 v1) fun c25 => tidyK n Q (.agg c25) H24)))))))))) : Cl B 49 [x0] H Q := fin rfl h (by simp only [ap,aop_w]; kernel_rfl)
theorem f50_in {x0 : AV} (h : fi B H [x0] fun n cl =>
 (ap B H (oN x0) fun v1 _ => (ap B H (oF 0 v1) fun v2 _ => ob (peek B H v2) fun c3 => pLive c3 fun v4 => cl 80 [v4] H fun v5 H6 => pLive v5 fun v7 => (ap B H6 (oX 0 (some .str) v7) fun v8 _ => (ap B H6 (oX 1 (some (.int .i64)) v7) fun v9 _ => (ap B H6 (oX 2 (some .bool) v7) fun v10 _ => cl 79 [x0,v9,v10] H6 fun v11 H12 => pBool v11 fun b13 => bs b13 (tidyK n Q v8 H12) (tidyK n Q ((.str [])) H12))))))) : Cl B 50 [x0] H Q := fin rfl h (by simp only [ap,aop_w]; kernel_rfl)
theorem f51_in {x0 : AV} {x1 : Int} (h : fi B H [x0,.int .i64 x1] fun n cl =>
 (ap B H (oN x0) fun v1 _ => (ap B H (oF 0 v1) fun v2 _ => ob (peek B H v2) fun c3 => pLive c3 fun v4 => cl 81 [v4] H fun v5 H6 => pLive v5 fun v7 => (ap B H6 (oX 0 (some (.int .u64)) v7) fun v8 _ => (ap B H6 (oX 1 (some (.int .i64)) v7) fun v9 _ => (ap B H6 (oX 2 (some .bool) v7) fun v10 _ => pGuard v10 (fun b11 => bs b11 (pInt .u64 v8 fun n12 => ibinK .leq .u64 n12 (IntKind.u64.wrap x1) fun v13 => cl 79 [x0,v9,v13] H6 fun v14 H15 => pBool v14 fun b16 => bs b16 (pInt .u64 v8 fun n17 => tidyK n Q (.int .i64 (IntKind.i64.wrap n17)) H15) (tidyK n Q (.int .i64 0) H15)) (cl 79 [x0,v9,.bool false] H6 fun v18 H19 => pBool v18 fun b20 => bs b20 (pInt .u64 v8 fun n21 => tidyK n Q (.int .i64 (IntKind.i64.wrap n21)) H19) (tidyK n Q (.int .i64 0) H19))) ((ap B H6 (.pick (.const (.tuple [])) (.const (.tuple [])) (.const (.bool false))) fun v22 _ => cl 79 [x0,v9,v22] H6 fun v23 H24 => pBool v23 fun b25 => bs b25 (pInt .u64 v8 fun n26 => tidyK n Q (.int .i64 (IntKind.i64.wrap n26)) H24) (tidyK n Q (.int .i64 0) H24))))))))) : Cl B 51 [x0,.int .i64 x1] H Q := fin rfl h (by simp only [ap,aop_w]; kernel_rfl)
theorem f52_in {x0 x1 x2 : AV} (h : fi B H [x0,x1,x2] fun n cl =>
 pInt .i64 x1 fun n1 => bs ((n1 : Int) == 0) (cl 82 [x0,x2] H fun v2 H3 => tyK .bool v2 fun v4 => tidyK n Q v4 H3) (tidyK n Q (.bool false) H)) : Cl B 52 [x0,x1,x2] H Q := fin rfl h (by kernel_rfl)
theorem L53_5_in {x0 : AV} {x5 : Int} {x6 : AV} {x7 : Int} (hcl : CLe cl cl) (h :
 bs (decide ((x7 : Int) < x5)) ((ap B H (oN x0) fun v4 _ => (ap B H (oF 1 v4) fun v5 _ => ob (peek B H v5) fun c6 => pBool c6 fun b7 => bs b7 (J53_6 B cl n x6 H Q) (J53_4 B cl n x0 x5 x6 x7 H Q)))) (J53_6 B cl n x6 H Q)) : L53_5 B cl n x0 x5 x6 x7 H Q := ALoop.round2 hcl rfl (Eq.mpr (by simp only [ap,aop_w]; kernel_rfl) h)
theorem J53_6_in {x6 : AV} (h :
 tidyK n Q x6 H) : J53_6 B cl n x6 H Q := kp (by kernel_rfl) h
theorem J53_4_in {x0 : AV} {x5 : Int} {x6 : AV} {x7 : Int} (h :
 (ap B H (oN x0) fun v8 _ => (ap B H (oF 0 v8) fun v9 _ => ob (peek B H v9) fun c10 => pStr c10 fun s11 => cl 83 [.str s11] H fun v12 H13 => pLive v12 fun v14 => (ap B H13 (oX 0 none v14) fun v15 _ => (ap B H13 (oX 1 (some (.int .i64)) v14) fun v16 _ => (ap B H13 (oX 2 (some (.int .i64)) v14) fun v17 _ => (ap B H13 (.alloc [(.str []),(.str []),(.bool false),(.int .i64 0)]) fun v18 H19 => (ap B H19 (oS 4 v18 v15) fun v20 H21 => J53_2 B cl n x0 x5 x6 x7 v18 v16 v17 H21 Q)))))))) : J53_4 B cl n x0 x5 x6 x7 H Q := kp (by simp only [ap,aop_w]; kernel_rfl) h
theorem J53_2_in {x0 : AV} {x5 : Int} {x6 : AV} {x7 : Int} {x8 x9 x10 : AV} (h :
 pInt .i64 x10 fun n22 => bs ((n22 : Int) != 0) ((ap B H (oN x0) fun v23 _ => (ap B H (oF 1 v23) fun v24 _ => (ap B H (oS 1 v24 (.bool true)) fun v25 H26 => tidyK n Q (.nils) H26)))) (J53_1 B cl n x0 x5 x6 x7 x8 x9 H Q)) : J53_2 B cl n x0 x5 x6 x7 x8 x9 x10 H Q := kp (by simp only [ap,aop_w]; kernel_rfl) h
theorem J53_1_in {x0 : AV} {x5 : Int} {x6 : AV} {x7 : Int} {x8 x9 : AV} (h :
 ob (peekN B H 4 x8) fun c27 => ob (layParts [(.str []),(.str []),(.bool false),(.int .i64 0)] [(0,4,.agg c27)]) fun c28 => slK H 4 1 c28 fun v29 H30 => (ap B H30 (oA 4 48 x6 v29) fun v31 H32 => J53_0 B cl n x0 x5 v31 x7 x9 H32 Q)) : J53_1 B cl n x0 x5 x6 x7 x8 x9 H Q := kp (by simp only [ap,aop_w]; kernel_rfl) h
theorem J53_0_in {x0 : AV} {x5 : Int} {x6 : AV} {x7 : Int} {x9 : AV} (h :
 (ap B H (oN x0) fun v33 _ => (ap B H (oF 0 v33) fun v34 _ => ob (peek B H v34) fun c35 => pStr c35 fun s36 => (ap B H (.sliceS (.const (.str s36)) (some (.const x9)) none) fun v37 _ => (ap B H (oN x0) fun v38 _ => (ap B H (oF 0 v38) fun v39 _ => (ap B H (oS 1 v39 v37) fun v40 H41 => J53_3 B cl n x0 x5 x6 x7 H41 Q))))))) : J53_0 B cl n x0 x5 x6 x7 x9 H Q := kp (by simp only [ap,aop_w]; kernel_rfl) h
theorem J53_3_in {x0 : AV} {x5 : Int} {x6 : AV} {x7 : Int} (h :
 L53_5 B cl n x0 x5 x6 (IntKind.i64.wrap (x7 + 1)) H Q) : J53_3 B cl n x0 x5 x6 x7 H Q := kp (by kernel_rfl) h
theorem f53_in {x0 : AV} {x1 : Int} (h : fi B H [x0,.int .i64 x1] fun n cl =>
 cl 55 [x0,.int .i64 x1] H fun v1 H2 => pInt .i64 v1 fun n3 => L53_5 B cl n x0 n3 .nils 0 H2 Q) : Cl B 53 [x0,.int .i64 x1] H Q := fin rfl h (by kernel_rfl)
theorem J54_4_in {x0 : AV} (h :
 (ap B H (oN x0) fun v1 _ => (ap B H (oF 0 v1) fun v2 _ => ob (peek B H v2) fun c3 => pStr c3 fun s4 => cl 84 [.str s4] H fun v5 H6 => pLive v5 fun v7 => (ap B H6 (oX 0 (some .str) v7) fun v8 _ => (ap B H6 (oX 1 (some (.int .i64)) v7) fun v9 _ => (ap B H6 (oX 2 (some .bool) v7) fun v10 _ => J54_3 B cl n x0 v8 v9 v10 H6 Q)))))) : J54_4 B cl n x0 H Q := kp (by simp only [ap,aop_w]; kernel_rfl) h
theorem J54_3_in {x0 x3 x4 x5 : AV} (h :
 (ap B H (oN x0) fun v11 _ => (ap B H (oF 1 v11) fun v12 _ => ob (peek B H v12) fun c13 => pBool c13 fun b14 => bs b14 (J54_0 B cl n x0 x3 x4 (.bool true) H Q) ((ap B H (.not (.const x5)) fun v15 _ => J54_0 B cl n x0 x3 x4 v15 H Q))))) : J54_3 B cl n x0 x3 x4 x5 H Q := kp (by simp only [ap,aop_w]; kernel_rfl) h
theorem J54_0_in {x0 x3 x4 x22 : AV} (h :
 pBool x22 fun b16 => (if b16 = true then (ap B H (oN x0) fun v17 _ => (ap B H (oF 1 v17) fun v18 _ => (ap B H (oS 1 v18 (.bool true)) fun v19 H20 => tidyK n Q ((.str [])) H20))) else J54_2 B cl n x0 x3 x4 H Q)) : J54_0 B cl n x0 x3 x4 x22 H Q := kp (by simp only [ap,aop_w]; kernel_rfl) h
theorem J54_2_in {x0 x3 x4 : AV} (h :
 (ap B H (oN x0) fun v21 _ => (ap B H (oF 0 v21) fun v22 _ => ob (peek B H v22) fun c23 => pStr c23 fun s24 => (ap B H (.sliceS (.const (.str s24)) (some (.const x4)) none) fun v25 _ => (ap B H (oN x0) fun v26 _ => (ap B H (oF 0 v26) fun v27 _ => (ap B H (oS 1 v27 v25) fun v28 H29 => J54_1 B cl n x3 H29 Q))))))) : J54_2 B cl n x0 x3 x4 H Q := kp (by simp only [ap,aop_w]; kernel_rfl) h
theorem J54_1_in {x3 : AV} (h :
 tidyK n Q x3 H) : J54_1 B cl n x3 H Q := kp (by kernel_rfl) h
theorem f54_in {x0 : AV} (h : fi B H [x0] fun n cl =>
 J54_4 B cl n x0 H Q) : Cl B 54 [x0] H Q := fin rfl h (by kernel_rfl)
theorem J55_4_in {x0 : AV} {x1 : Int} (h :
 (ap B H (oN x0) fun v1 _ => (ap B H (oF 0 v1) fun v2 _ => ob (peek B H v2) fun c3 => pStr c3 fun s4 => cl 85 [.str s4] H fun v5 H6 => pLive v5 fun v7 => (ap B H6 (oX 0 (some (.int .u64)) v7) fun v8 _ => (ap B H6 (oX 1 (some (.int .i64)) v7) fun v9 _ => (ap B H6 (oX 2 (some .bool) v7) fun v10 _ => J55_3 B cl n x0 x1 v8 v9 v10 H6 Q)))))) : J55_4 B cl n x0 x1 H Q := kp (by simp only [ap,aop_w]; kernel_rfl) h
theorem J55_3_in {x0 : AV} {x1 : Int} {x5 x6 x7 : AV} (h :
 (ap B H (oN x0) fun v11 _ => (ap B H (oF 1 v11) fun v12 _ => ob (peek B H v12) fun c13 => pBool c13 fun b14 => bs b14 (J55_0 B cl n x0 x5 x6 (.bool true) H Q) (pBool x7 fun b15 => bs b15 (pInt .u64 x5 fun n16 => ibinK .gtr .u64 n16 (IntKind.u64.wrap x1) fun v17 => J55_0 B cl n x0 x5 x6 v17 H Q) (J55_0 B cl n x0 x5 x6 (.bool true) H Q))))) : J55_3 B cl n x0 x1 x5 x6 x7 H Q := kp (by simp only [ap,aop_w]; kernel_rfl) h
theorem J55_0_in {x0 x5 x6 x30 : AV} (h :
 pBool x30 fun b18 => (if b18 = true then (ap B H (oN x0) fun v19 _ => (ap B H (oF 1 v19) fun v20 _ => (ap B H (oS 1 v20 (.bool true)) fun v21 H22 => tidyK n Q (.int .i64 0) H22))) else J55_2 B cl n x0 x5 x6 H Q)) : J55_0 B cl n x0 x5 x6 x30 H Q := kp (by simp only [ap,aop_w]; kernel_rfl) h
theorem J55_2_in {x0 x5 x6 : AV} (h :
 (ap B H (oN x0) fun v23 _ => (ap B H (oF 0 v23) fun v24 _ => ob (peek B H v24) fun c25 => pStr c25 fun s26 => (ap B H (.sliceS (.const (.str s26)) (some (.const x6)) none) fun v27 _ => (ap B H (oN x0) fun v28 _ => (ap B H (oF 0 v28) fun v29 _ => (ap B H (oS 1 v29 v27) fun v30 H31 => J55_1 B cl n x5 H31 Q))))))) : J55_2 B cl n x0 x5 x6 H Q := kp (by simp only [ap,aop_w]; kernel_rfl) h
theorem J55_1_in {x5 : AV} (h :
 pInt .u64 x5 fun n32 => tidyK n Q (.int .i64 (IntKind.i64.wrap n32)) H) : J55_1 B cl n x5 H Q := kp (by kernel_rfl) h
theorem f55_in {x0 : AV} {x1 : Int} (h : fi B H [x0,.int .i64 x1] fun n cl =>
 J55_4 B cl n x0 x1 H Q) : Cl B 55 [x0,.int .i64 x1] H Q := fin rfl h (by kernel_rfl)
theorem J56_9_in {x0 x2 : AV} {x6 : Int} (h :
 ibinK .eql .i64 x6 1 fun v1 => J56_8 B cl n x0 x2 x6 v1 H Q) : J56_9 B cl n x0 x2 x6 H Q := kp (by kernel_rfl) h
theorem J56_8_in {x0 x2 : AV} {x6 : Int} {x7 : AV} (h :
 pBool x7 fun b2 => (if b2 = true then cl 51 [x0,.int .i64 1099511627776] H fun v3 H4 => pInt .i64 v3 fun n5 => (ap B H4 (oN x2) fun v6 _ => (ap B H4 (oF 1 v6) fun v7 _ => (ap B H4 (oS 1 v7 (.int .i64 n5)) fun v8 H9 => tidyK n Q (.tuple []) H9))) else ibinK .eql .i64 x6 2 fun v10 => J56_7 B cl n x0 x2 x6 v10 H Q)) : J56_8 B cl n x0 x2 x6 x7 H Q := kp (by kernel_rfl) h
theorem J56_7_in {x0 x2 : AV} {x6 : Int} {x14 : AV} (h :
 pBool x14 fun b11 => (if b11 = true then cl 50 [x0] H fun v12 H13 => pStr v12 fun s14 => (ap B H13 (.toBytes (.const (.str s14))) fun v15 H16 => cl 86 [x0,.int .i64 512,.func (.func 87) [x0] []] H16 fun v17 H18 => pLive v17 fun v19 => ob (layParts [.nils,.nils] [(0,1,v15),(1,1,v19)]) fun c20 => (ap B H18 (oN x2) fun v21 _ => (ap B H18 (oF 3 v21) fun v22 _ => (ap B H18 (oS 2 v22 (.agg c20)) fun v23 H24 => tidyK n Q (.tuple []) H24)))) else ibinK .eql .i64 x6 3 fun v25 => J56_6 B cl n x0 x2 x6 v25 H Q)) : J56_7 B cl n x0 x2 x6 x14 H Q := kp (by kernel_rfl) h
theorem J56_6_in {x0 x2 : AV} {x6 : Int} {x27 : AV} (h :
 pBool x27 fun b26 => (if b26 = true then cl 50 [x0] H fun v27 H28 => pStr v27 fun s29 => (ap B H28 (.toBytes (.const (.str s29))) fun v30 H31 => cl 88 [x0,.int .i64 512,.func (.func 89) [x0] []] H31 fun v32 H33 => pLive v32 fun v34 => ob (layParts [.nils,.nils] [(0,1,v30),(1,1,v34)]) fun c35 => (ap B H33 (oN x2) fun v36 _ => (ap B H33 (oF 5 v36) fun v37 _ => (ap B H33 (oS 2 v37 (.agg c35)) fun v38 H39 => tidyK n Q (.tuple []) H39)))) else ibinK .eql .i64 x6 4 fun v40 => J56_5 B cl n x0 x2 x6 v40 H Q)) : J56_6 B cl n x0 x2 x6 x27 H Q := kp (by kernel_rfl) h
theorem J56_5_in {x0 x2 : AV} {x6 : Int} {x40 : AV} (h :
 pBool x40 fun b41 => (if b41 = true then cl 51 [x0,.int .i64 1099511627776] H fun v42 H43 => pInt .i64 v42 fun n44 => (ap B H43 (oN x2) fun v45 _ => (ap B H43 (oF 2 v45) fun v46 _ => (ap B H43 (oS 1 v46 (.int .i64 n44)) fun v47 H48 => J56_0 B cl n x0 x2 H48 Q))) else ibinK .eql .i64 x6 5 fun v49 => J56_4 B cl n x0 x2 x6 v49 H Q)) : J56_5 B cl n x0 x2 x6 x40 H Q := kp (by kernel_rfl) h
theorem J56_0_in {x0 x2 : AV} (h :
 cl 50 [x0] H fun v50 H51 => pStr v50 fun s52 => (ap B H51 (.toBytes (.const (.str s52))) fun v53 H54 => (ap B H54 (oN x2) fun v55 _ => (ap B H54 (oF 7 v55) fun v56 _ => (ap B H54 (oS 1 v56 v53) fun v57 H58 => tidyK n Q (.tuple []) H58))))) : J56_0 B cl n x0 x2 H Q := kp (by kernel_rfl) h
theorem J56_4_in {x0 x2 : AV} {x6 : Int} {x53 : AV} (h :
 pBool x53 fun b59 => (if b59 = true then cl 51 [x0,.int .i64 1099511627776] H fun v60 H61 => pInt .i64 v60 fun n62 => (ap B H61 (oN x2) fun v63 _ => (ap B H61 (oF 2 v63) fun v64 _ => (ap B H61 (oS 1 v64 (.int .i64 n62)) fun v65 H66 => J56_2 B cl n x0 x2 H66 Q))) else ibinK .eql .i64 x6 6 fun v67 => J56_3 B cl n x0 x2 v67 H Q)) : J56_4 B cl n x0 x2 x6 x53 H Q := kp (by kernel_rfl) h
theorem J56_2_in {x0 x2 : AV} (h :
 cl 50 [x0] H fun v68 H69 => pStr v68 fun s70 => (ap B H69 (.toBytes (.const (.str s70))) fun v71 H72 => (ap B H72 (oN x2) fun v73 _ => (ap B H72 (oF 7 v73) fun v74 _ => (ap B H72 (oS 1 v74 v71) fun v75 H76 => J56_1 B cl n x0 x2 H76 Q))))) : J56_2 B cl n x0 x2 H Q := kp (by kernel_rfl) h
theorem J56_3_in {x0 x2 x73 : AV} (h :
 pBool x73 fun b77 => (if b77 = true then cl 51 [x0,.int .i64 1099511627776] H fun v78 H79 => pInt .i64 v78 fun n80 => (ap B H79 (oN x2) fun v81 _ => (ap B H79 (oF 1 v81) fun v82 _ => (ap B H79 (oS 1 v82 (.int .i64 n80)) fun v83 H84 => cl 51 [x0,.int .i64 1099511627776] H84 fun v85 H86 => pInt .i64 v85 fun n87 => (ap B H86 (oN x2) fun v88 _ => (ap B H86 (oF 2 v88) fun v89 _ => (ap B H86 (oS 1 v89 (.int .i64 n87)) fun v90 H91 => tidyK n Q (.tuple []) H91)))))) else tidyK n Q (.tuple []) H)) : J56_3 B cl n x0 x2 x73 H Q := kp (by kernel_rfl) h
theorem J56_1_in {x0 x2 : AV} (h :
 cl 90 [x0,.int .i64 512,.func (.func 91) [x0] []] H fun v92 H93 => pLive v92 fun v94 => (ap B H93 (oN x2) fun v95 _ => (ap B H93 (oF 8 v95) fun v96 _ => (ap B H93 (oS 1 v96 v94) fun v97 H98 => tidyK n Q (.tuple []) H98)))) : J56_1 B cl n x0 x2 H Q := kp (by kernel_rfl) h
theorem f56_in {x0 : AV} {x1 : Int} {x2 : AV} (h : fi B H [x0,.int .i64 x1,x2] fun n cl =>
 J56_9 B cl n x0 x2 x1 H Q) : Cl B 56 [x0,.int .i64 x1,x2] H Q := fin rfl h (by kernel_rfl)
theorem J57_0_in {x2 x4 : AV} (h :
 ob (peekN B H 7 x4) fun c22 => (ap B H (oS 7 x2 (.agg c22)) fun v23 H24 => ob (peekN B H24 7 x2) fun c25 => tidyK n Q (.agg c25) H24)) : J57_0 B cl n x2 x4 H Q := kp (by kernel_rfl) h
theorem f57_in {x0 : AV} (h : fi B H [x0] fun n cl =>
 (ap B H (.alloc [(.bool false),(.int .i64 0),.nils,.nils,(.int .i64 0),.nils,.nils]) fun v1 H2 => cl 55 [x0,.int .i64 1] H2 fun v3 H4 => pInt .i64 v3 fun n5 => ibinK .eql .i64 n5 1 fun v6 => cl 92 [x0] H4 fun v7 H8 => pLive v7 fun v9 => ob (layParts [(.bool false),(.int .i64 0),.nils,.nils,(.int .i64 0),.nils,.nils] [(0,1,v6),(1,3,v9)]) fun c10 => (ap B H8 (.alloc [(.bool false),(.int .i64 0),.nils,.nils,(.int .i64 0),.nils,.nils]) fun v11 H12 => (ap B H12 (oS 7 v11 (.agg c10)) fun v13 H14 => pBool v6 fun b15 => (if b15 = true then cl 92 [x0] H14 fun v16 H17 => pLive v16 fun v18 => (ap B H17 (oF 4 v11) fun v19 _ => (ap B H17 (oS 3 v19 v18) fun v20 H21 => J57_0 B cl n v1 v11 H21 Q)) else J57_0 B cl n v1 v11 H14 Q))))) : Cl B 57 [x0] H Q := fin rfl h (by kernel_rfl)
theorem J58_5_in {x0 x2 : AV} (h :
 cl 55 [x0,.int .i64 1099511627776] H fun v3 H4 => pInt .i64 v3 fun n5 => ob (layParts [(.int .i64 0),.nils,.nils] [(0,1,.int .i64 n5)]) fun c6 => (ap B H4 (.alloc [(.int .i64 0),.nils,.nils]) fun v7 H8 => (ap B H8 (oS 3 v7 (.agg c6)) fun v9 H10 => J58_4 B cl n x0 x2 v7 H10 Q))) : J58_5 B cl n x0 x2 H Q := kp (by kernel_rfl) h
theorem J58_4_in {x0 x2 x3 : AV} (h :
 cl 55 [x0,.int .i64 64] H fun v11 H12 => pInt .i64 v11 fun n13 => L58_2 B cl n x0 x2 x3 n13 0 H12 Q) : J58_4 B cl n x0 x2 x3 H Q := kp (by kernel_rfl) h
theorem L58_2_in {x0 x2 x3 : AV} {x4 x5 : Int} (hcl : CLe cl cl) (h :
 bs (decide ((x5 : Int) < x4)) ((ap B H (oN x0) fun v14 _ => (ap B H (oF 1 v14) fun v15 _ => ob (peek B H v15) fun c16 => pBool c16 fun b17 => bs b17 (J58_3 B cl n x0 x2 x3 H Q) (J58_1 B cl n x0 x2 x3 x4 x5 H Q)))) (J58_3 B cl n x0 x2 x3 H Q)) : L58_2 B cl n x0 x2 x3 x4 x5 H Q := ALoop.round2 hcl rfl (Eq.mpr (by kernel_rfl) h)
theorem J58_3_in {x0 x2 x3 : AV} (h :
 cl 93 [x0] H fun v18 H19 => pLive v18 fun v20 => (ap B H19 (oF 2 x3) fun v21 _ => (ap B H19 (oS 1 v21 v20) fun v22 H23 => ob (peekN B H23 3 x3) fun c24 => (ap B H23 (oS 3 x2 (.agg c24)) fun v25 H26 => ob (peekN B H26 3 x2) fun c27 => tidyK n Q (.agg c27) H26)))) : J58_3 B cl n x0 x2 x3 H Q := kp (by kernel_rfl) h
theorem J58_1_in {x0 x2 x3 : AV} {x4 x5 : Int} (h :
 cl 54 [x0] H fun v28 H29 => pStr v28 fun s30 => (ap B H29 (oF 1 x3) fun v31 _ => ob (peek B H29 v31) fun c32 => pLive c32 fun v33 => (ap B H29 (.toBytes (.const (.str s30))) fun v34 H35 => ob (layParts [.nils] [(0,1,v34)]) fun c36 => slK H35 1 1 c36 fun v37 H38 => (ap B H38 (oA 1 24 v33 v37) fun v39 H40 => (ap B H40 (oF 1 x3) fun v41 _ => (ap B H40 (oS 1 v41 v39) fun v42 H43 => J58_0 B cl n x0 x2 x3 x4 x5 H43 Q)))))) : J58_1 B cl n x0 x2 x3 x4 x5 H Q := kp (by kernel_rfl) h
theorem J58_0_in {x0 x2 x3 : AV} {x4 x5 : Int} (h :
 L58_2 B cl n x0 x2 x3 x4 (IntKind.i64.wrap (x5 + 1)) H Q) : J58_0 B cl n x0 x2 x3 x4 x5 H Q := kp (by kernel_rfl) h
theorem f58_in {x0 : AV} (h : fi B H [x0] fun n cl =>
 (ap B H (.alloc [(.int .i64 0),.nils,.nils]) fun v1 H2 => J58_5 B cl n x0 v1 H2 Q)) : Cl B 58 [x0] H Q := fin rfl h (by kernel_rfl)
theorem J59_0_in {x1 : AV} (h :
 (ap B H (oF 0 x1) fun v3 _ => ob (peek B H v3) fun c4 => pStr c4 fun s5 => pStr ((.str [])) fun s6 => bs (!(s5 == s6)) ((ap B H (oF 0 x1) fun v7 _ => ob (peek B H v7) fun c8 => pStr c8 fun s9 => bs (decide ((((List.length s9 : Nat) : Int) : Int) ≤ 128)) ((ap B H (oF 1 x1) fun v10 _ => ob (peek B H v10) fun c11 => pStr c11 fun s12 => bs (decide ((((List.length s12 : Nat) : Int) : Int) ≤ 1024)) ((ap B H (oF 2 x1) fun v13 _ => ob (peek B H v13) fun c14 => pBool c14 fun b15 => bs b15 ((ap B H (oF 1 x1) fun v16 _ => ob (peek B H v16) fun c17 => pStr c17 fun s18 => pStr ((.str [])) fun s19 => bs (!(s18 == s19)) (tidyK n Q (.bool false) H) ((ap B H (oF 3 x1) fun v20 _ => ob (peek B H v20) fun c21 => pInt .i64 c21 fun n22 => bs (decide ((n22 : Int) ≥ 1)) ((ap B H (oF 3 x1) fun v23 _ => ob (peek B H v23) fun c24 => pInt .i64 c24 fun n25 => ibinK .leq .i64 n25 1099511627776 fun v26 => tidyK n Q v26 H)) (tidyK n Q (.bool false) H))))) ((ap B H (oF 3 x1) fun v27 _ => ob (peek B H v27) fun c28 => pInt .i64 c28 fun n29 => bs (decide ((n29 : Int) ≥ 1)) ((ap B H (oF 3 x1) fun v30 _ => ob (peek B H v30) fun c31 => pInt .i64 c31 fun n32 => ibinK .leq .i64 n32 1099511627776 fun v33 => tidyK n Q v33 H)) (tidyK n Q (.bool false) H))))) (tidyK n Q (.bool false) H))) (tidyK n Q (.bool false) H))) (tidyK n Q (.bool false) H))) : J59_0 B cl n x1 H Q := kp (by kernel_rfl) h
theorem f59_in {x0 : AV} (h : fi B H [x0] fun n cl =>
 (ap B H (.box 4 (.const x0)) fun v1 H2 => J59_0 B cl n v1 H2 Q)) : Cl B 59 [x0] H Q := fin rfl h (by kernel_rfl)
theorem J60_1_in {x1 x3 : AV} (h :
 (ap B H (oF 3 x1) fun v16 _ => ob (peek B H v16) fun c17 => pInt .i64 c17 fun n18 => (ap B H (oF 0 x1) fun v19 _ => ob (peek B H v19) fun c20 => pStr c20 fun s21 => cl 62 [x3,.int .u64 (IntKind.u64.wrap n18)] H fun v22 H23 => pLive v22 fun v24 => (ob (peek B H23 v19) fun c38 => pStr c38 fun s39 => (.str s39 : AV) = .str s21) ∧ (((ap B H23 (oF 0 x1) fun v37 _ => (v37 : AV) = v19)) ∧ (cl 61 [v24,.str s21] H23 fun v25 H26 => pLive v25 fun v27 => (ap B H26 (oF 2 x1) fun v28 _ => ob (peek B H26 v28) fun c29 => pBool c29 fun b30 => bs b30 (J60_0 B cl n v27 H26 Q) ((ap B H26 (oF 1 x1) fun v31 _ => ob (peek B H26 v31) fun c32 => pStr c32 fun s33 => cl 61 [v27,.str s33] H26 fun v34 H35 => pLive v34 fun v36 => J60_0 B cl n v36 H35 Q)))))))) : J60_1 B cl n x1 x3 H Q := kp (by kernel_rfl) h
theorem J60_0_in {x3 : AV} (h :
 tidyK n Q x3 H) : J60_0 B cl n x3 H Q := kp (by kernel_rfl) h
theorem f60_in {x0 : AV} (h : fi B H [x0] fun n cl =>
 (ap B H (.box 4 (.const x0)) fun v1 H2 => ob (peekN B H2 4 v1) fun c3 => cl 59 [.agg c3] H2 fun v4 H5 => pBool v4 fun b6 => bs b6 (ob (layParts [(.int .u8 0)] [(0,1,.int .u8 0)]) fun c7 => slK H5 1 1 c7 fun v8 H9 => (ap B H9 (oF 2 v1) fun v10 _ => ob (peek B H9 v10) fun c11 => pBool c11 fun b12 => bs b12 ((ap B H9 (oI 1 v8 (.int .i64 0)) fun v13 _ => (ap B H9 (oS 1 v13 (.int .u8 1)) fun v14 H15 => J60_1 B cl n v1 v8 H15 Q))) (J60_1 B cl n v1 v8 H9 Q))) (tidyK n Q (.nils) H5))) : Cl B 60 [x0] H Q := fin rfl h (by kernel_rfl)
theorem f61_in {x0 : AV} {x1 : List UInt8} (h : fi B H [x0,.str x1] fun n cl =>
 cl 62 [x0,.int .u64 (IntKind.u64.wrap (((List.length x1 : Nat) : Int)))] H fun v1 H2 => pLive v1 fun v3 => (ap B H2 (.appendS (.const v3) (.const (.str x1))) fun v4 H5 => tidyK n Q v4 H5)) : Cl B 61 [x0,.str x1] H Q := fin rfl h (by kernel_rfl)
theorem L62_0_in {x0 x1 : AV} (hcl : CLe cl cl) (h :
 pInt .u64 x1 fun n4 => bs (decide ((n4 : Int) ≥ 128)) (pInt .u64 x1 fun n5 => ob (layParts [(.int .u8 0)] [(0,1,.int .u8 (bitsOp .or IntKind.u8 (IntKind.u8.wrap n5) 128))]) fun c6 => slK H 1 1 c6 fun v7 H8 => (ap B H8 (oA 1 1 x0 v7) fun v9 H10 => (ap B H10 (.shf .shr .u64 (.const x1) (.const (.int .u64 7))) fun v11 _ => L62_0 B cl n v9 v11 H10 Q))) (J62_1 B cl n x0 x1 H Q)) : L62_0 B cl n x0 x1 H Q := ALoop.round2 hcl rfl (Eq.mpr (by kernel_rfl) h)
theorem J62_1_in {x0 x1 : AV} (h :
 pInt .u64 x1 fun n12 => ob (layParts [(.int .u8 0)] [(0,1,.int .u8 (IntKind.u8.wrap n12))]) fun c13 => slK H 1 1 c13 fun v14 H15 => (ap B H15 (oA 1 1 x0 v14) fun v16 H17 => tidyK n Q v16 H17)) : J62_1 B cl n x0 x1 H Q := kp (by kernel_rfl) h
theorem f62_in {x0 : AV} {x1 : Int} (h : fi B H [x0,.int .u64 x1] fun n cl =>
 ob (lenOf x0) fun k1 => ob (lenOf x0) fun k2 => (ap B H (.sliceL 1 (.const x0) none (some (.const (.int .i64 (k1 : Int)))) (some (.const (.int .i64 (k2 : Int))))) fun v3 _ => L62_0 B cl n v3 (.int .u64 x1) H Q)) : Cl B 62 [x0,.int .u64 x1] H Q := fin rfl h (by kernel_rfl)
theorem J63_0_in {x1 : AV} (h :
 (ap B H (oF 0 x1) fun v3 _ => ob (peek B H v3) fun c4 => pStr c4 fun s5 => bs (decide ((((List.length s5 : Nat) : Int) : Int) ≥ 1)) ((ap B H (oF 0 x1) fun v6 _ => ob (peek B H v6) fun c7 => pStr c7 fun s8 => bs (decide ((((List.length s8 : Nat) : Int) : Int) ≤ 128)) ((ap B H (oF 1 x1) fun v9 _ => ob (peek B H v9) fun c10 => pStr c10 fun s11 => bs (decide ((((List.length s11 : Nat) : Int) : Int) ≤ 1024)) ((ap B H (oF 2 x1) fun v12 _ => ob (peek B H v12) fun c13 => pBool c13 fun b14 => bs b14 ((ap B H (oF 1 x1) fun v15 _ => ob (peek B H v15) fun c16 => pStr c16 fun s17 => pStr ((.str [])) fun s18 => bs (s17 == s18) ((ap B H (oF 3 x1) fun v19 _ => ob (peek B H v19) fun c20 => pInt .i64 c20 fun n21 => bs (decide ((n21 : Int) ≥ 1)) ((ap B H (oF 3 x1) fun v22 _ => ob (peek B H v22) fun c23 => pInt .i64 c23 fun n24 => ibinK .leq .i64 n24 1099511627776 fun v25 => tidyK n Q v25 H)) (tidyK n Q (.bool false) H))) (tidyK n Q (.bool false) H))) ((ap B H (oF 3 x1) fun v26 _ => ob (peek B H v26) fun c27 => pInt .i64 c27 fun n28 => bs (decide ((n28 : Int) ≥ 1)) ((ap B H (oF 3 x1) fun v29 _ => ob (peek B H v29) fun c30 => pInt .i64 c30 fun n31 => ibinK .leq .i64 n31 1099511627776 fun v32 => tidyK n Q v32 H)) (tidyK n Q (.bool false) H))))) (tidyK n Q (.bool false) H))) (tidyK n Q (.bool false) H))) (tidyK n Q (.bool false) H))) : J63_0 B cl n x1 H Q := kp (by kernel_rfl) h
theorem f63_in {x0 : AV} (h : fi B H [x0] fun n cl =>
 (ap B H (.box 4 (.const x0)) fun v1 H2 => J63_0 B cl n v1 H2 Q)) : Cl B 63 [x0] H Q := fin rfl h (by kernel_rfl)
theorem J64_4_in {x1 : AV} (h :
 ob (peekN B H 4 x1) fun c3 => cl 63 [.agg c3] H fun v4 H5 => tyK .bool v4 fun v6 => J64_3 B cl n x1 v6 H5 Q) : J64_4 B cl n x1 H Q := kp (by kernel_rfl) h
theorem J64_3_in {x1 x3 : AV} (h :
 pBool x3 fun b7 => bs b7 (J64_2 B cl n x1 H Q) (tidyK n Q ((.str [])) H)) : J64_3 B cl n x1 x3 H Q := kp (by kernel_rfl) h
theorem J64_2_in {x1 : AV} (h :
 (ap B H (oF 2 x1) fun v8 _ => ob (peek B H v8) fun c9 => tyK .bool c9 fun v10 => J64_0 B cl n x1 v10 H Q)) : J64_2 B cl n x1 H Q := kp (by kernel_rfl) h
theorem J64_0_in {x1 x9 : AV} (h :
 pBool x9 fun b11 => (if b11 = true then (ap B H (oF 3 x1) fun v12 _ => ob (peek B H v12) fun c13 => pInt .i64 c13 fun n14 => (ap B H (oF 0 x1) fun v15 _ => ob (peek B H v15) fun c16 => pStr c16 fun s17 => ob (layParts [(.int .u8 0)] [(0,1,.int .u8 1)]) fun c18 => slK H 1 1 c18 fun v19 H20 => (ap B H20 (.toStr (.const v19)) fun v21 _ => cl 66 [v21,.int .u64 (IntKind.u64.wrap n14)] H20 fun v22 H23 => pStr v22 fun s24 => (ob (peek B H23 v15) fun c29 => pStr c29 fun s30 => (.str s30 : AV) = .str s17) ∧ (((ap B H23 (oF 0 x1) fun v28 _ => (v28 : AV) = v15)) ∧ (cl 65 [.str s24,.str s17] H23 fun v25 H26 => pStr v25 fun s27 => tidyK n Q (.str s27) H26))))) else J64_1 B cl n x1 H Q)) : J64_0 B cl n x1 x9 H Q := kp (by kernel_rfl) h
theorem J64_1_in {x1 : AV} (h :
 (ap B H (oF 3 x1) fun v31 _ => ob (peek B H v31) fun c32 => pInt .i64 c32 fun n33 => (ap B H (oF 0 x1) fun v34 _ => ob (peek B H v34) fun c35 => pStr c35 fun s36 => (ap B H (oF 1 x1) fun v37 _ => ob (peek B H v37) fun c38 => pStr c38 fun s39 => ob (layParts [(.int .u8 0)] [(0,1,.int .u8 0)]) fun c40 => slK H 1 1 c40 fun v41 H42 => (ap B H42 (.toStr (.const v41)) fun v43 _ => cl 66 [v43,.int .u64 (IntKind.u64.wrap n33)] H42 fun v44 H45 => pStr v44 fun s46 => (ob (peek B H45 v37) fun c60 => pStr c60 fun s61 => (.str s61 : AV) = .str s39) ∧ (((ap B H45 (oF 1 x1) fun v59 _ => (v59 : AV) = v37)) ∧ ((ob (peek B H45 v34) fun c57 => pStr c57 fun s58 => (.str s58 : AV) = .str s36) ∧ (((ap B H45 (oF 0 x1) fun v56 _ => (v56 : AV) = v34)) ∧ (cl 65 [.str s46,.str s36] H45 fun v47 H48 => pStr v47 fun s49 => (ob (peek B H48 v37) fun c54 => pStr c54 fun s55 => (.str s55 : AV) = .str s39) ∧ (((ap B H48 (oF 1 x1) fun v53 _ => (v53 : AV) = v37)) ∧ (cl 65 [.str s49,.str s39] H48 fun v50 H51 => pStr v50 fun s52 => tidyK n Q (.str s52) H51))))))))))) : J64_1 B cl n x1 H Q := kp (by kernel_rfl) h
theorem f64_in {x0 : AV} (h : fi B H [x0] fun n cl =>
 (ap B H (.box 4 (.const x0)) fun v1 H2 => J64_4 B cl n v1 H2 Q)) : Cl B 64 [x0] H Q := fin rfl h (by kernel_rfl)
theorem f65_in {x0 x1 : List UInt8} (h : fi B H [.str x0,.str x1] fun n cl =>
 cl 66 [.str x0,.int .u64 (IntKind.u64.wrap (((List.length x1 : Nat) : Int)))] H fun v1 H2 => pStr v1 fun s3 => sbinK .add s3 x1 fun v4 => tidyK n Q v4 H2) : Cl B 65 [.str x0,.str x1] H Q := fin rfl h (by kernel_rfl)
theorem L66_0_in {x0 : AV} {x1 : Int} (hcl : CLe cl cl) (h :
 bs (decide ((x1 : Int) ≥ 128)) ((if (128 : Int) = 0 then False else ob (layParts [(.int .u8 0)] [(0,1,.int .u8 (IntKind.u8.wrap (IntKind.u8.wrap (Int.tmod x1 128) + 128)))]) fun c1 => slK H 1 1 c1 fun v2 H3 => (ap B H3 (.toStr (.const v2)) fun v4 _ => pStr x0 fun s5 => pStr v4 fun s6 => sbinK .add s5 s6 fun v7 => (if (128 : Int) = 0 then False else L66_0 B cl n v7 (IntKind.u64.wrap (Int.tdiv x1 128)) H3 Q)))) (J66_1 B cl n x0 x1 H Q)) : L66_0 B cl n x0 x1 H Q := ALoop.round2 hcl rfl (Eq.mpr (by kernel_rfl) h)
theorem J66_1_in {x0 : AV} {x1 : Int} (h :
 ob (layParts [(.int .u8 0)] [(0,1,.int .u8 (IntKind.u8.wrap x1))]) fun c8 => slK H 1 1 c8 fun v9 H10 => (ap B H10 (.toStr (.const v9)) fun v11 _ => pStr x0 fun s12 => pStr v11 fun s13 => sbinK .add s12 s13 fun v14 => tidyK n Q v14 H10)) : J66_1 B cl n x0 x1 H Q := kp (by kernel_rfl) h
theorem f66_in {x0 : List UInt8} {x1 : Int} (h : fi B H [.str x0,.int .u64 x1] fun n cl =>
 L66_0 B cl n (.str x0) x1 H Q) : Cl B 66 [.str x0,.int .u64 x1] H Q := fin rfl h (by kernel_rfl)
theorem f67_in {x0 : AV} {x1 : Bool} (h : fi B H [x0,.bool x1] fun n cl =>
 (ap B H (oN x0) fun v1 _ => (ap B H (oF 0 v1) fun v2 _ => ob (peek B H v2) fun c3 => pLive c3 fun v4 => ob (layParts [(.int .u8 0)] [(0,1,.int .u8 0)]) fun c5 => slK H 1 1 c5 fun v6 H7 => (ap B H7 (oA 1 1 v4 v6) fun v8 H9 => (ap B H9 (oN x0) fun v10 _ => (ap B H9 (oF 0 v10) fun v11 _ => (ap B H9 (oS 1 v11 v8) fun v12 H13 => (if x1 = true then (ap B H13 (oN x0) fun v14 _ => (ap B H13 (oF 0 v14) fun v15 _ => ob (peek B H13 v15) fun c16 => pLive c16 fun v17 => (ap B H13 (oN x0) fun v18 _ => (ap B H13 (oF 0 v18) fun v19 _ => ob (peek B H13 v19) fun c20 => pLive c20 fun v21 => ob (lenOf v21) fun k22 => (ap B H13 (.indexPtr 1 (.const v17) (.const (.int .i64 (IntKind.i64.wrap ((k22 : Int) - 1))))) fun v23 _ => (ap B H13 (oS 1 v23 (.int .u8 1)) fun v24 H25 => tidyK n Q (.tuple []) H25)))))) else tidyK n Q (.tuple []) H13)))))))) : Cl B 67 [x0,.bool x1] H Q := fin rfl h (by simp only [ap,aop_w]; kernel_rfl)
theorem f68_in {x0 x1 : AV} (h : fi B H [x0,x1] fun n cl =>
 (ap B H (.box 3 (.const x1)) fun v1 H2 => (ap B H2 (oF 0 v1) fun v3 _ => ob (peek B H2 v3) fun c4 => pInt .i64 c4 fun n5 => cl 29 [x0,.int .i64 n5] H2 fun v6 H7 => pLive v6 fun v8 => (ap B H7 (oF 1 v1) fun v9 _ => ob (peek B H7 v9) fun c10 => pLive c10 fun v11 => (ap B H7 (.toStr (.const v11)) fun v12 _ => cl 28 [x0,v12] H7 fun v13 H14 => pLive v13 fun v15 => (ap B H14 (oF 2 v1) fun v16 _ => ob (peek B H14 v16) fun c17 => pLive c17 fun v18 => cl 72 [x0,v18,.int .i64 64,.func (.func 73) [x0] []] H14 fun v19 H20 => pLive v19 fun v21 => tidyK n Q (.tuple []) H20)))))) : Cl B 68 [x0,x1] H Q := fin rfl h (by kernel_rfl)
theorem f69_in {x0 : AV} (h : fi B H [x0] fun n cl =>
 (ap B H (.box 3 (.const x0)) fun v1 H2 => (ap B H2 (oF 0 v1) fun v3 _ => ob (peek B H2 v3) fun c4 => pInt .i64 c4 fun n5 => bs ((n5 : Int) == 0) ((ap B H2 (oF 1 v1) fun v6 _ => ob (peek B H2 v6) fun c7 => pLive c7 fun v8 => ob (lenOf v8) fun k9 => bs (((k9 : Int) : Int) == 0) ((ap B H2 (oF 2 v1) fun v10 _ => ob (peek B H2 v10) fun c11 => pLive c11 fun v12 => ob (lenOf v12) fun k13 => ibinK .eql .i64 (k13 : Int) 0 fun v14 => tidyK n Q v14 H2)) (tidyK n Q (.bool false) H2))) (tidyK n Q (.bool false) H2)))) : Cl B 69 [x0] H Q := fin rfl h (by kernel_rfl)
theorem L70_0_in {x3 x20 : AV} {x21 x22 : Int} (hcl : CLe cl cl) (h :
 bs (decide ((x22 : Int) < x21)) ((ap B H (oI 1 x20 (.int .i64 x22)) fun v11 _ => ob (peek B H v11) fun c12 => pLive c12 fun v13 => calleeK B E0 H [v13] (fun g16 z17 => cl g16 z17 H fun v14 H15 => pLive v14 fun v18 => L70_0 B cl n x3 x20 x21 (IntKind.i64.wrap (x22 + 1)) H15 Q) (.val (.const x3)))) (tidyK n Q (.tuple []) H)) : L70_0 B cl n x3 x20 x21 x22 H Q := ALoop.round2 hcl rfl (Eq.mpr (by kernel_rfl) h)
theorem f70_in {x0 x1 : AV} {x2 : Int} {x3 : AV} (h : fi B H [x0,x1,.int .i64 x2,x3] fun n cl =>
 ob (lenOf x1) fun k1 => ibinK .leq .i64 (k1 : Int) x2 fun v2 => cl 25 [x0,v2] H fun v3 H4 => pLive v3 fun v5 => ob (lenOf x1) fun k6 => cl 29 [x0,.int .i64 (k6 : Int)] H4 fun v7 H8 => pLive v7 fun v9 => ob (lenOf x1) fun k10 => L70_0 B cl n x3 x1 (k10 : Int) 0 H8 Q) : Cl B 70 [x0,x1,.int .i64 x2,x3] H Q := fin rfl h (by kernel_rfl)
theorem f71_in {x0 x1 : AV} (h : fi B H [x0,x1] fun n cl =>
 ob (peek B H x1) fun c1 => pLive c1 fun v2 => (ap B H (.toStr (.const x0)) fun v3 _ => cl 28 [v2,v3] H fun v4 H5 => pLive v4 fun v6 => tidyK n Q (.tuple []) H5)) : Cl B 71 [x0,x1] H Q := fin rfl h (by kernel_rfl)
theorem L72_0_in {x3 x20 : AV} {x21 x22 : Int} (hcl : CLe cl cl) (h :
 bs (decide ((x22 : Int) < x21)) ((ap B H (oI 32 x20 (.int .i64 x22)) fun v11 _ => ob (peekN B H 32 v11) fun c12 => (ap B H (.alloc z32) fun v13 H14 => (ap B H14 (oS 32 v13 (.agg c12)) fun v15 H16 => ob (peekN B H16 32 v13) fun c17 => calleeK B E0 H16 [.agg c17] (fun g20 z21 => cl g20 z21 H16 fun v18 H19 => pLive v18 fun v22 => L72_0 B cl n x3 x20 x21 (IntKind.i64.wrap (x22 + 1)) H19 Q) (.val (.const x3)))))) (tidyK n Q (.tuple []) H)) : L72_0 B cl n x3 x20 x21 x22 H Q := ALoop.round2 hcl rfl (Eq.mpr (by kernel_rfl) h)
theorem f72_in {x0 x1 : AV} {x2 : Int} {x3 : AV} (h : fi B H [x0,x1,.int .i64 x2,x3] fun n cl =>
 ob (lenOf x1) fun k1 => ibinK .leq .i64 (k1 : Int) x2 fun v2 => cl 25 [x0,v2] H fun v3 H4 => pLive v3 fun v5 => ob (lenOf x1) fun k6 => cl 29 [x0,.int .i64 (k6 : Int)] H4 fun v7 H8 => pLive v7 fun v9 => ob (lenOf x1) fun k10 => L72_0 B cl n x3 x1 (k10 : Int) 0 H8 Q) : Cl B 72 [x0,x1,.int .i64 x2,x3] H Q := fin rfl h (by kernel_rfl)
theorem f73_in {x0 x1 : AV} (h : fi B H [x0,x1] fun n cl =>
 (ap B H (.box 32 (.const x1)) fun v1 H2 => (ap B H2 (oN x0) fun v3 _ => (ap B H2 (oF 0 v3) fun v4 _ => ob (peek B H2 v4) fun c5 => pLive c5 fun v6 => (ap B H2 (.sliceA 32 1 (.const v1) none none) fun v7 _ => (ap B H2 (oA 1 1 v6 v7) fun v8 H9 => ((x0 : AV) = x0) ∧ ((ap B H9 (oN x0) fun v10 _ => (ap B H9 (oF 0 v10) fun v11 _ => (ap B H9 (oS 1 v11 v8) fun v12 H13 => tidyK n Q (.tuple []) H13)))))))))) : Cl B 73 [x0,x1] H Q := fin rfl h (by kernel_rfl)
end Go.Am
