/- What the functions of the seat do, from label to label. -/
import Derived.Test.YtcnmdodgjbfmdaaAf
namespace Go.Am
open Go
set_option maxRecDepth 100000
def J5_11 (B : Base) (cl : CallK) (n : Nat) (x0 : AV) (x1 : Int) (x2 : Bool) (H : Heap) (Q : AV → Heap → Prop) : Prop := awC B cl (ALoop n) c5_11 (ev 62 [(0, x0), (1, .int .i64 (x1)), (2, .bool x2)]) H (fnQ B a5 (tidyK n Q))
def J5_10 (B : Base) (cl : CallK) (n : Nat) (x0 : AV) (x1 : Int) (x2 : Bool) (x7 : AV) (H : Heap) (Q : AV → Heap → Prop) : Prop := awC B cl (ALoop n) c5_10 (ev 62 [(0, x0), (1, .int .i64 (x1)), (2, .bool x2), (7, x7)]) H (fnQ B a5 (tidyK n Q))
def J5_9 (B : Base) (cl : CallK) (n : Nat) (x1 : Int) (x2 : Bool) (x7 : AV) (x8 : AV) (H : Heap) (Q : AV → Heap → Prop) : Prop := awC B cl (ALoop n) c5_9 (ev 62 [(1, .int .i64 (x1)), (2, .bool x2), (7, x7), (8, x8)]) H (fnQ B a5 (tidyK n Q))
def J5_8 (B : Base) (cl : CallK) (n : Nat) (x1 : Int) (x2 : Bool) (x7 : AV) (x8 : AV) (H : Heap) (Q : AV → Heap → Prop) : Prop := awC B cl (ALoop n) c5_8 (ev 62 [(1, .int .i64 (x1)), (2, .bool x2), (7, x7), (8, x8)]) H (fnQ B a5 (tidyK n Q))
def J5_7 (B : Base) (cl : CallK) (n : Nat) (x1 : Int) (x2 : Bool) (x7 : AV) (x8 : AV) (H : Heap) (Q : AV → Heap → Prop) : Prop := awC B cl (ALoop n) c5_7 (ev 62 [(1, .int .i64 (x1)), (2, .bool x2), (7, x7), (8, x8)]) H (fnQ B a5 (tidyK n Q))
def J5_6 (B : Base) (cl : CallK) (n : Nat) (x1 : Int) (x2 : Bool) (x7 : AV) (x8 : AV) (x9 : AV) (H : Heap) (Q : AV → Heap → Prop) : Prop := awC B cl (ALoop n) c5_6 (ev 62 [(1, .int .i64 (x1)), (2, .bool x2), (7, x7), (8, x8), (9, x9)]) H (fnQ B a5 (tidyK n Q))
def J5_5 (B : Base) (cl : CallK) (n : Nat) (x2 : Bool) (x7 : AV) (x8 : AV) (x9 : AV) (x10 : AV) (H : Heap) (Q : AV → Heap → Prop) : Prop := awC B cl (ALoop n) c5_5 (ev 62 [(2, .bool x2), (7, x7), (8, x8), (9, x9), (10, x10)]) H (fnQ B a5 (tidyK n Q))
def J5_4 (B : Base) (cl : CallK) (n : Nat) (x2 : Bool) (x7 : AV) (x9 : AV) (x10 : AV) (x11 : AV) (H : Heap) (Q : AV → Heap → Prop) : Prop := awC B cl (ALoop n) c5_4 (ev 62 [(2, .bool x2), (7, x7), (9, x9), (10, x10), (11, x11)]) H (fnQ B a5 (tidyK n Q))
def J5_3 (B : Base) (cl : CallK) (n : Nat) (x2 : Bool) (x7 : AV) (x11 : AV) (x12 : AV) (H : Heap) (Q : AV → Heap → Prop) : Prop := awC B cl (ALoop n) c5_3 (ev 62 [(2, .bool x2), (7, x7), (11, x11), (12, x12)]) H (fnQ B a5 (tidyK n Q))
def J5_2 (B : Base) (cl : CallK) (n : Nat) (x7 : AV) (x11 : AV) (x12 : AV) (x13 : AV) (H : Heap) (Q : AV → Heap → Prop) : Prop := awC B cl (ALoop n) c5_2 (ev 62 [(7, x7), (11, x11), (12, x12), (13, x13)]) H (fnQ B a5 (tidyK n Q))
def J5_1 (B : Base) (cl : CallK) (n : Nat) (x7 : AV) (x11 : AV) (x13 : AV) (x14 : AV) (H : Heap) (Q : AV → Heap → Prop) : Prop := awC B cl (ALoop n) c5_1 (ev 62 [(7, x7), (11, x11), (13, x13), (14, x14)]) H (fnQ B a5 (tidyK n Q))
def J5_0 (B : Base) (cl : CallK) (n : Nat) (x7 : AV) (x14 : AV) (x15 : AV) (H : Heap) (Q : AV → Heap → Prop) : Prop := awC B cl (ALoop n) c5_0 (ev 62 [(7, x7), (14, x14), (15, x15)]) H (fnQ B a5 (tidyK n Q))
theorem J5_11_eq (B : Base) (cl : CallK) (n : Nat) (x0 : AV) (x1 : Int) (x2 : Bool) (H : Heap) (Q : AV → Heap → Prop) : awC B cl (ALoop n) b5_11 (keepEnv l5_11 (ev 62 [(0, x0), (1, .int .i64 (x1)), (2, .bool x2)])) H (fnQ B a5 (tidyK n Q)) =
  (cl 9 [] H fun v1 H2 => tyK .bool v1 fun v3 => J5_10 B cl n x0 (x1) x2 v3 H2 Q) := by kernel_rfl
theorem J5_11_in {B : Base} {cl : CallK} {n : Nat} {x0 : AV} {x1 : Int} {x2 : Bool} {H : Heap} {Q : AV → Heap → Prop} (h :
  cl 9 [] H fun v1 H2 => tyK .bool v1 fun v3 => J5_10 B cl n x0 (x1) x2 v3 H2 Q) : J5_11 B cl n x0 x1 x2 H Q := (awC_keep (l := l5_11) (a := b5_11)).2 (Eq.mpr (J5_11_eq B cl n x0 x1 x2 H Q) h)
theorem J5_10_eq (B : Base) (cl : CallK) (n : Nat) (x0 : AV) (x1 : Int) (x2 : Bool) (x7 : AV) (H : Heap) (Q : AV → Heap → Prop) : awC B cl (ALoop n) b5_10 (keepEnv l5_10 (ev 62 [(0, x0), (1, .int .i64 (x1)), (2, .bool x2), (7, x7)])) H (fnQ B a5 (tidyK n Q)) =
  (cl 14 [x0] H fun v4 H5 => pLive v4 fun v6 => J5_9 B cl n (x1) x2 x7 v6 H5 Q) := by kernel_rfl
theorem J5_10_in {B : Base} {cl : CallK} {n : Nat} {x0 : AV} {x1 : Int} {x2 : Bool} {x7 : AV} {H : Heap} {Q : AV → Heap → Prop} (h :
  cl 14 [x0] H fun v4 H5 => pLive v4 fun v6 => J5_9 B cl n (x1) x2 x7 v6 H5 Q) : J5_10 B cl n x0 x1 x2 x7 H Q := (awC_keep (l := l5_10) (a := b5_10)).2 (Eq.mpr (J5_10_eq B cl n x0 x1 x2 x7 H Q) h)
theorem J5_9_eq (B : Base) (cl : CallK) (n : Nat) (x1 : Int) (x2 : Bool) (x7 : AV) (x8 : AV) (H : Heap) (Q : AV → Heap → Prop) : awC B cl (ALoop n) b5_9 (keepEnv l5_9 (ev 62 [(1, .int .i64 (x1)), (2, .bool x2), (7, x7), (8, x8)])) H (fnQ B a5 (tidyK n Q)) =
  (bs (decide ((x1 : Int) < 0)) (J5_8 B cl n (IntKind.i64.wrap (0 - (IntKind.i64.wrap (x1 + 1)))) x2 x7 x8 H Q) (J5_8 B cl n (x1) x2 x7 x8 H Q)) := by kernel_rfl
theorem J5_9_in {B : Base} {cl : CallK} {n : Nat} {x1 : Int} {x2 : Bool} {x7 : AV} {x8 : AV} {H : Heap} {Q : AV → Heap → Prop} (h :
  bs (decide ((x1 : Int) < 0)) (J5_8 B cl n (IntKind.i64.wrap (0 - (IntKind.i64.wrap (x1 + 1)))) x2 x7 x8 H Q) (J5_8 B cl n (x1) x2 x7 x8 H Q)) : J5_9 B cl n x1 x2 x7 x8 H Q := (awC_keep (l := l5_9) (a := b5_9)).2 (Eq.mpr (J5_9_eq B cl n x1 x2 x7 x8 H Q) h)
theorem J5_8_eq (B : Base) (cl : CallK) (n : Nat) (x1 : Int) (x2 : Bool) (x7 : AV) (x8 : AV) (H : Heap) (Q : AV → Heap → Prop) : awC B cl (ALoop n) b5_8 (keepEnv l5_8 (ev 62 [(1, .int .i64 (x1)), (2, .bool x2), (7, x7), (8, x8)])) H (fnQ B a5 (tidyK n Q)) =
  (ob (lenOf (x8)) fun k7 => (if (IntKind.i64.wrap ((k7 : Int) + 1) : Int) = 0 then False else J5_7 B cl n (Int.tmod (x1) (IntKind.i64.wrap ((k7 : Int) + 1))) x2 x7 x8 H Q)) := by kernel_rfl
theorem J5_8_in {B : Base} {cl : CallK} {n : Nat} {x1 : Int} {x2 : Bool} {x7 : AV} {x8 : AV} {H : Heap} {Q : AV → Heap → Prop} (h :
  ob (lenOf (x8)) fun k7 => (if (IntKind.i64.wrap ((k7 : Int) + 1) : Int) = 0 then False else J5_7 B cl n (Int.tmod (x1) (IntKind.i64.wrap ((k7 : Int) + 1))) x2 x7 x8 H Q)) : J5_8 B cl n x1 x2 x7 x8 H Q := (awC_keep (l := l5_8) (a := b5_8)).2 (Eq.mpr (J5_8_eq B cl n x1 x2 x7 x8 H Q) h)
theorem J5_7_eq (B : Base) (cl : CallK) (n : Nat) (x1 : Int) (x2 : Bool) (x7 : AV) (x8 : AV) (H : Heap) (Q : AV → Heap → Prop) : awC B cl (ALoop n) b5_7 (keepEnv l5_7 (ev 62 [(1, .int .i64 (x1)), (2, .bool x2), (7, x7), (8, x8)])) H (fnQ B a5 (tidyK n Q)) =
  (wait (aop B E0 H (fun v8 _ => cl 11 [v8, .bool false] H fun v9 H10 => pLive v9 fun v11 => J5_6 B cl n (x1) x2 x7 x8 v11 H10 Q) (.sliceL 1 (.const (x8)) none (some (.const (.int .i64 (x1)))) none))) := by kernel_rfl
theorem J5_7_in {B : Base} {cl : CallK} {n : Nat} {x1 : Int} {x2 : Bool} {x7 : AV} {x8 : AV} {H : Heap} {Q : AV → Heap → Prop} (h :
  (aop B E0 H (fun v8 _ => cl 11 [v8, .bool false] H fun v9 H10 => pLive v9 fun v11 => J5_6 B cl n (x1) x2 x7 x8 v11 H10 Q) (.sliceL 1 (.const (x8)) none (some (.const (.int .i64 (x1)))) none))) : J5_7 B cl n x1 x2 x7 x8 H Q := (awC_keep (l := l5_7) (a := b5_7)).2 (Eq.mpr (J5_7_eq B cl n x1 x2 x7 x8 H Q) (by simp only [wait_eq] at h ⊢; exact h))
theorem J5_6_eq (B : Base) (cl : CallK) (n : Nat) (x1 : Int) (x2 : Bool) (x7 : AV) (x8 : AV) (x9 : AV) (H : Heap) (Q : AV → Heap → Prop) : awC B cl (ALoop n) b5_6 (keepEnv l5_6 (ev 62 [(1, .int .i64 (x1)), (2, .bool x2), (7, x7), (8, x8), (9, x9)])) H (fnQ B a5 (tidyK n Q)) =
  (wait (aop B E0 H (fun v12 _ => cl 11 [v12, .bool false] H fun v13 H14 => pLive v13 fun v15 => J5_5 B cl n x2 x7 x8 x9 v15 H14 Q) (.sliceL 1 (.const (x8)) (some (.const (.int .i64 (x1)))) none none))) := by kernel_rfl
theorem J5_6_in {B : Base} {cl : CallK} {n : Nat} {x1 : Int} {x2 : Bool} {x7 : AV} {x8 : AV} {x9 : AV} {H : Heap} {Q : AV → Heap → Prop} (h :
  (aop B E0 H (fun v12 _ => cl 11 [v12, .bool false] H fun v13 H14 => pLive v13 fun v15 => J5_5 B cl n x2 x7 x8 x9 v15 H14 Q) (.sliceL 1 (.const (x8)) (some (.const (.int .i64 (x1)))) none none))) : J5_6 B cl n x1 x2 x7 x8 x9 H Q := (awC_keep (l := l5_6) (a := b5_6)).2 (Eq.mpr (J5_6_eq B cl n x1 x2 x7 x8 x9 H Q) (by simp only [wait_eq] at h ⊢; exact h))
theorem J5_5_eq (B : Base) (cl : CallK) (n : Nat) (x2 : Bool) (x7 : AV) (x8 : AV) (x9 : AV) (x10 : AV) (H : Heap) (Q : AV → Heap → Prop) : awC B cl (ALoop n) b5_5 (keepEnv l5_5 (ev 62 [(2, .bool x2), (7, x7), (8, x8), (9, x9), (10, x10)])) H (fnQ B a5 (tidyK n Q)) =
  (cl 11 [x8, .bool x2] H fun v16 H17 => pLive v16 fun v18 => J5_4 B cl n x2 x7 x9 x10 v18 H17 Q) := by kernel_rfl
theorem J5_5_in {B : Base} {cl : CallK} {n : Nat} {x2 : Bool} {x7 : AV} {x8 : AV} {x9 : AV} {x10 : AV} {H : Heap} {Q : AV → Heap → Prop} (h :
  cl 11 [x8, .bool x2] H fun v16 H17 => pLive v16 fun v18 => J5_4 B cl n x2 x7 x9 x10 v18 H17 Q) : J5_5 B cl n x2 x7 x8 x9 x10 H Q := (awC_keep (l := l5_5) (a := b5_5)).2 (Eq.mpr (J5_5_eq B cl n x2 x7 x8 x9 x10 H Q) h)
theorem J5_4_eq (B : Base) (cl : CallK) (n : Nat) (x2 : Bool) (x7 : AV) (x9 : AV) (x10 : AV) (x11 : AV) (H : Heap) (Q : AV → Heap → Prop) : awC B cl (ALoop n) b5_4 (keepEnv l5_4 (ev 62 [(2, .bool x2), (7, x7), (9, x9), (10, x10), (11, x11)])) H (fnQ B a5 (tidyK n Q)) =
  (ob (layParts [.nils, .nils] [(0, 1, x9), (1, 1, x10)]) fun c19 => slK H 1 2 c19 fun v20 H21 => cl 11 [v20, .bool x2] H21 fun v22 H23 => pLive v22 fun v24 => J5_3 B cl n x2 x7 x11 v24 H23 Q) := by kernel_rfl
theorem J5_4_in {B : Base} {cl : CallK} {n : Nat} {x2 : Bool} {x7 : AV} {x9 : AV} {x10 : AV} {x11 : AV} {H : Heap} {Q : AV → Heap → Prop} (h :
  ob (layParts [.nils, .nils] [(0, 1, x9), (1, 1, x10)]) fun c19 => slK H 1 2 c19 fun v20 H21 => cl 11 [v20, .bool x2] H21 fun v22 H23 => pLive v22 fun v24 => J5_3 B cl n x2 x7 x11 v24 H23 Q) : J5_4 B cl n x2 x7 x9 x10 x11 H Q := (awC_keep (l := l5_4) (a := b5_4)).2 (Eq.mpr (J5_4_eq B cl n x2 x7 x9 x10 x11 H Q) h)
theorem J5_3_eq (B : Base) (cl : CallK) (n : Nat) (x2 : Bool) (x7 : AV) (x11 : AV) (x12 : AV) (H : Heap) (Q : AV → Heap → Prop) : awC B cl (ALoop n) b5_3 (keepEnv l5_3 (ev 62 [(2, .bool x2), (7, x7), (11, x11), (12, x12)])) H (fnQ B a5 (tidyK n Q)) =
  (ob (layParts [.nils] [(0, 1, x11)]) fun c25 => slK H 1 1 c25 fun v26 H27 => cl 11 [v26, .bool x2] H27 fun v28 H29 => pLive v28 fun v30 => J5_2 B cl n x7 x11 x12 v30 H29 Q) := by kernel_rfl
theorem J5_3_in {B : Base} {cl : CallK} {n : Nat} {x2 : Bool} {x7 : AV} {x11 : AV} {x12 : AV} {H : Heap} {Q : AV → Heap → Prop} (h :
  ob (layParts [.nils] [(0, 1, x11)]) fun c25 => slK H 1 1 c25 fun v26 H27 => cl 11 [v26, .bool x2] H27 fun v28 H29 => pLive v28 fun v30 => J5_2 B cl n x7 x11 x12 v30 H29 Q) : J5_3 B cl n x2 x7 x11 x12 H Q := (awC_keep (l := l5_3) (a := b5_3)).2 (Eq.mpr (J5_3_eq B cl n x2 x7 x11 x12 H Q) h)
theorem J5_2_eq (B : Base) (cl : CallK) (n : Nat) (x7 : AV) (x11 : AV) (x12 : AV) (x13 : AV) (H : Heap) (Q : AV → Heap → Prop) : awC B cl (ALoop n) b5_2 (keepEnv l5_2 (ev 62 [(7, x7), (11, x11), (12, x12), (13, x13)])) H (fnQ B a5 (tidyK n Q)) =
  (cl 12 [x11, x12] H fun v31 H32 => tyK .bool v31 fun v33 => J5_1 B cl n x7 x11 x13 v33 H32 Q) := by kernel_rfl
theorem J5_2_in {B : Base} {cl : CallK} {n : Nat} {x7 : AV} {x11 : AV} {x12 : AV} {x13 : AV} {H : Heap} {Q : AV → Heap → Prop} (h :
  cl 12 [x11, x12] H fun v31 H32 => tyK .bool v31 fun v33 => J5_1 B cl n x7 x11 x13 v33 H32 Q) : J5_2 B cl n x7 x11 x12 x13 H Q := (awC_keep (l := l5_2) (a := b5_2)).2 (Eq.mpr (J5_2_eq B cl n x7 x11 x12 x13 H Q) h)
theorem J5_1_eq (B : Base) (cl : CallK) (n : Nat) (x7 : AV) (x11 : AV) (x13 : AV) (x14 : AV) (H : Heap) (Q : AV → Heap → Prop) : awC B cl (ALoop n) b5_1 (keepEnv l5_1 (ev 62 [(7, x7), (11, x11), (13, x13), (14, x14)])) H (fnQ B a5 (tidyK n Q)) =
  (cl 12 [x11, x13] H fun v34 H35 => tyK .bool v34 fun v36 => J5_0 B cl n x7 x14 v36 H35 Q) := by kernel_rfl
theorem J5_1_in {B : Base} {cl : CallK} {n : Nat} {x7 : AV} {x11 : AV} {x13 : AV} {x14 : AV} {H : Heap} {Q : AV → Heap → Prop} (h :
  cl 12 [x11, x13] H fun v34 H35 => tyK .bool v34 fun v36 => J5_0 B cl n x7 x14 v36 H35 Q) : J5_1 B cl n x7 x11 x13 x14 H Q := (awC_keep (l := l5_1) (a := b5_1)).2 (Eq.mpr (J5_1_eq B cl n x7 x11 x13 x14 H Q) h)
theorem J5_0_eq (B : Base) (cl : CallK) (n : Nat) (x7 : AV) (x14 : AV) (x15 : AV) (H : Heap) (Q : AV → Heap → Prop) : awC B cl (ALoop n) b5_0 (keepEnv l5_0 (ev 62 [(7, x7), (14, x14), (15, x15)])) H (fnQ B a5 (tidyK n Q)) =
  (pGuard (x7) (fun b37 => bs b37 (pGuard (x14) (fun b38 => bs b38 (tidyK n Q (x15) H) (tidyK n Q (.bool false) H)) (wait (aop B E0 H (fun v39 _ => tidyK n Q (v39) H) (.pick (.const (.tuple [])) (.const (.tuple [])) (.const (.bool false)))))) (tidyK n Q (.bool false) H)) (wait (aop B E0 H (fun v40 _ => pGuard (v40) (fun b41 => bs b41 (tidyK n Q (x15) H) (tidyK n Q (.bool false) H)) (wait (aop B E0 H (fun v42 _ => tidyK n Q (v42) H) (.pick (.const (.tuple [])) (.const (.tuple [])) (.const (.bool false)))))) (.pick (.const (.tuple [])) (.const (.tuple [])) (.const (.bool false)))))) := by kernel_rfl
theorem J5_0_in {B : Base} {cl : CallK} {n : Nat} {x7 : AV} {x14 : AV} {x15 : AV} {H : Heap} {Q : AV → Heap → Prop} (h :
  pGuard (x7) (fun b37 => bs b37 (pGuard (x14) (fun b38 => bs b38 (tidyK n Q (x15) H) (tidyK n Q (.bool false) H)) ((aop B E0 H (fun v39 _ => tidyK n Q (v39) H) (.pick (.const (.tuple [])) (.const (.tuple [])) (.const (.bool false)))))) (tidyK n Q (.bool false) H)) ((aop B E0 H (fun v40 _ => pGuard (v40) (fun b41 => bs b41 (tidyK n Q (x15) H) (tidyK n Q (.bool false) H)) ((aop B E0 H (fun v42 _ => tidyK n Q (v42) H) (.pick (.const (.tuple [])) (.const (.tuple [])) (.const (.bool false)))))) (.pick (.const (.tuple [])) (.const (.tuple [])) (.const (.bool false)))))) : J5_0 B cl n x7 x14 x15 H Q := (awC_keep (l := l5_0) (a := b5_0)).2 (Eq.mpr (J5_0_eq B cl n x7 x14 x15 H Q) (by simp only [wait_eq] at h ⊢; exact h))
theorem f5_eq (B : Base) (cl : CallK) (n : Nat) (x0 : AV) (x1 : Int) (x2 : Bool) (H : Heap) (Q : AV → Heap → Prop) : fnK B cl (ALoop n) a5 [x0, .int .i64 (x1), .bool x2] H (tidyK n Q) =
  (J5_11 B cl n x0 (x1) x2 H Q) := by kernel_rfl
theorem f5_in {B : Base} {x0 : AV} {x1 : Int} {x2 : Bool} {H : Heap} {Q : AV → Heap → Prop} (h : ∀ n cl, n = H.length → cl = Cl B → LowH n H → LowL n [x0, .int .i64 (x1), .bool x2] →
  J5_11 B cl n x0 (x1) x2 H Q) : Cl B 5 [x0, .int .i64 (x1), .bool x2] H Q := ACall.intro rfl fun h1 h2 => by
    have h3 := h _ _ rfl rfl h1 h2
    exact (Eq.mpr (f5_eq B (Cl B) H.length x0 x1 x2 H Q) h3)
end Go.Am
