/- What the functions of the seat do, from label to label. -/
import Derived.Test.YtcnmdodgjbfmdaaAf
namespace Go.Am
open Go
set_option maxRecDepth 100000
def k17_0 (B : Base) (cl : CallK) (n : Nat) (Q : AV → Heap → Prop) : KQ := (AExit.thenK (fun e h => awC B cl (ALoop n) c17_8 e h (fnQ B a17 (tidyK n Q))) (fnQ B a17 (tidyK n Q)))
def k17_1 (B : Base) (cl : CallK) (n : Nat) (Q : AV → Heap → Prop) : KQ := (AExit.blockK 0 (k17_0 B cl n Q))
def k17_2 (B : Base) (cl : CallK) (n : Nat) (Q : AV → Heap → Prop) : KQ := (AExit.thenK (fun e h => awC B cl (ALoop n) c17_7 e h (fnQ B a17 (tidyK n Q))) (fnQ B a17 (tidyK n Q)))
def k17_3 (B : Base) (cl : CallK) (n : Nat) (Q : AV → Heap → Prop) : KQ := (AExit.blockK 2 (k17_2 B cl n Q))
def k17_4 (B : Base) (cl : CallK) (n : Nat) (Q : AV → Heap → Prop) : KQ := (AExit.thenK (fun e h => awC B cl (ALoop n) c17_6 e h (k17_3 B cl n Q)) (k17_3 B cl n Q))
def k17_5 (B : Base) (cl : CallK) (n : Nat) (Q : AV → Heap → Prop) : KQ := (AExit.thenK (fun e h => awC B cl (ALoop n) c17_4 e h (k17_4 B cl n Q)) (k17_4 B cl n Q))
def k17_6 (B : Base) (cl : CallK) (n : Nat) (Q : AV → Heap → Prop) : KQ := (AExit.blockK 3 (k17_5 B cl n Q))
def L17_0 (B : Base) (cl : CallK) (n : Nat) (x0 : AV) (x3 : AV) (x4 : Int) (H : Heap) (Q : AV → Heap → Prop) : Prop := awC B cl (ALoop n) c17_0 (ev 48 [(0, x0), (3, x3), (4, .int .i64 (x4))]) H (k17_1 B cl n Q)
def J17_8 (B : Base) (cl : CallK) (n : Nat) (x0 : AV) (x3 : AV) (x4 : Int) (H : Heap) (Q : AV → Heap → Prop) : Prop := awC B cl (ALoop n) c17_8 (ev 48 [(0, x0), (3, x3), (4, .int .i64 (x4))]) H (fnQ B a17 (tidyK n Q))
def L17_6 (B : Base) (cl : CallK) (n : Nat) (x0 : AV) (x3 : AV) (x4 : Int) (x5 : Int) (x6 : Int) (H : Heap) (Q : AV → Heap → Prop) : Prop := awC B cl (ALoop n) c17_6 (ev 48 [(0, x0), (3, x3), (4, .int .i64 (x4)), (5, .int .i64 (x5)), (6, .int .i64 (x6))]) H (k17_3 B cl n Q)
def J17_5 (B : Base) (cl : CallK) (n : Nat) (x0 : AV) (x3 : AV) (x4 : Int) (x5 : Int) (x6 : Int) (H : Heap) (Q : AV → Heap → Prop) : Prop := awC B cl (ALoop n) c17_5 (ev 48 [(0, x0), (3, x3), (4, .int .i64 (x4)), (5, .int .i64 (x5)), (6, .int .i64 (x6))]) H (k17_4 B cl n Q)
def J17_7 (B : Base) (cl : CallK) (n : Nat) (x3 : AV) (H : Heap) (Q : AV → Heap → Prop) : Prop := awC B cl (ALoop n) c17_7 (ev 48 [(3, x3)]) H (fnQ B a17 (tidyK n Q))
def J17_3 (B : Base) (cl : CallK) (n : Nat) (x0 : AV) (x3 : AV) (x4 : Int) (x5 : Int) (x6 : Int) (x7 : Int) (H : Heap) (Q : AV → Heap → Prop) : Prop := awC B cl (ALoop n) c17_3 (ev 48 [(0, x0), (3, x3), (4, .int .i64 (x4)), (5, .int .i64 (x5)), (6, .int .i64 (x6)), (7, .int .i64 (x7))]) H (k17_6 B cl n Q)
def J17_2 (B : Base) (cl : CallK) (n : Nat) (x0 : AV) (x3 : AV) (x4 : Int) (x5 : Int) (x6 : Int) (x7 : Int) (H : Heap) (Q : AV → Heap → Prop) : Prop := awC B cl (ALoop n) c17_2 (ev 48 [(0, x0), (3, x3), (4, .int .i64 (x4)), (5, .int .i64 (x5)), (6, .int .i64 (x6)), (7, .int .i64 (x7))]) H (k17_6 B cl n Q)
def J17_1 (B : Base) (cl : CallK) (n : Nat) (x0 : AV) (x3 : AV) (x4 : Int) (x5 : Int) (x6 : Int) (x7 : Int) (H : Heap) (Q : AV → Heap → Prop) : Prop := awC B cl (ALoop n) c17_1 (ev 48 [(0, x0), (3, x3), (4, .int .i64 (x4)), (5, .int .i64 (x5)), (6, .int .i64 (x6)), (7, .int .i64 (x7))]) H (k17_6 B cl n Q)
def J17_4 (B : Base) (cl : CallK) (n : Nat) (x0 : AV) (x3 : AV) (x4 : Int) (x5 : Int) (x6 : Int) (H : Heap) (Q : AV → Heap → Prop) : Prop := awC B cl (ALoop n) c17_4 (ev 48 [(0, x0), (3, x3), (4, .int .i64 (x4)), (5, .int .i64 (x5)), (6, .int .i64 (x6))]) H (k17_4 B cl n Q)
theorem L17_0_eq (B : Base) (cl : CallK) (n : Nat) (x0 : AV) (x3 : AV) (x4 : Int) (H : Heap) (Q : AV → Heap → Prop) : awC B cl (ALoop n) b17_0 (keepEnv l17_0 (ev 48 [(0, x0), (3, x3), (4, .int .i64 (x4))])) H (AExit.thenK (fun e h => awC B cl (ALoop n) c17_0 e h (k17_1 B cl n Q)) (k17_1 B cl n Q)) =
  (ob (lenOf (x0)) fun k4 => bs (decide ((IntKind.i64.wrap (x4 * 64) : Int) < (k4 : Int))) (L17_0 B cl n x0 x3 (IntKind.i64.wrap (x4 + 1)) H Q) (J17_8 B cl n x0 x3 (x4) H Q)) := by kernel_rfl
theorem L17_0_in {B : Base} {cl : CallK} {n : Nat} {x0 : AV} {x3 : AV} {x4 : Int} {H : Heap} {Q : AV → Heap → Prop} (hcl : CLe cl cl) (h :
  ob (lenOf (x0)) fun k4 => bs (decide ((IntKind.i64.wrap (x4 * 64) : Int) < (k4 : Int))) (L17_0 B cl n x0 x3 (IntKind.i64.wrap (x4 + 1)) H Q) (J17_8 B cl n x0 x3 (x4) H Q)) : L17_0 B cl n x0 x3 x4 H Q := ALoop.round2 (l := l17_0) (a := b17_0) hcl rfl (Eq.mpr (L17_0_eq B cl n x0 x3 x4 H Q) h)
theorem L17_0_tidy {B : Base} {cl : CallK} {n : Nat} {x0 : AV} {x3 : AV} {x4 : Int} {y0 : AV} {y3 : AV} {H H2 : Heap} {Q : AV → Heap → Prop} {f : Nat → Nat} (hC : Cln n f H H2) (h0 : RV f H2.length y0 x0) (h3 : RV f H2.length y3 x3) (h : L17_0 B cl n y0 y3 x4 H2 Q) : L17_0 B cl n x0 x3 x4 H Q :=
  ALoop.tidy2 (l := l17_0) (a := b17_0) (env2 := (ev 48 [(0, y0), (3, y3), (4, .int .i64 (x4))])) hC (RVP.rve ⟨rfl, h0, ⟨rfl, h3, ⟨rfl, rfl, trivial⟩⟩⟩) h
theorem J17_8_eq (B : Base) (cl : CallK) (n : Nat) (x0 : AV) (x3 : AV) (x4 : Int) (H : Heap) (Q : AV → Heap → Prop) : awC B cl (ALoop n) b17_8 (keepEnv l17_8 (ev 48 [(0, x0), (3, x3), (4, .int .i64 (x4))])) H (fnQ B a17 (tidyK n Q)) =
  (L17_6 B cl n x0 x3 (x4) (0) (0) H Q) := by kernel_rfl
theorem J17_8_in {B : Base} {cl : CallK} {n : Nat} {x0 : AV} {x3 : AV} {x4 : Int} {H : Heap} {Q : AV → Heap → Prop} (h :
  L17_6 B cl n x0 x3 (x4) (0) (0) H Q) : J17_8 B cl n x0 x3 x4 H Q := (awC_keep (l := l17_8) (a := b17_8)).2 (Eq.mpr (J17_8_eq B cl n x0 x3 x4 H Q) h)
theorem L17_6_eq (B : Base) (cl : CallK) (n : Nat) (x0 : AV) (x3 : AV) (x4 : Int) (x5 : Int) (x6 : Int) (H : Heap) (Q : AV → Heap → Prop) : awC B cl (ALoop n) b17_6 (keepEnv l17_6 (ev 48 [(0, x0), (3, x3), (4, .int .i64 (x4)), (5, .int .i64 (x5)), (6, .int .i64 (x6))])) H (AExit.thenK (fun e h => awC B cl (ALoop n) c17_6 e h (k17_3 B cl n Q)) (k17_3 B cl n Q)) =
  (bs (decide ((x6 : Int) < x4)) (J17_5 B cl n x0 x3 (x4) (x5) (x6) H Q) (J17_7 B cl n x3 H Q)) := by kernel_rfl
theorem L17_6_in {B : Base} {cl : CallK} {n : Nat} {x0 : AV} {x3 : AV} {x4 : Int} {x5 : Int} {x6 : Int} {H : Heap} {Q : AV → Heap → Prop} (hcl : CLe cl cl) (h :
  bs (decide ((x6 : Int) < x4)) (J17_5 B cl n x0 x3 (x4) (x5) (x6) H Q) (J17_7 B cl n x3 H Q)) : L17_6 B cl n x0 x3 x4 x5 x6 H Q := ALoop.round2 (l := l17_6) (a := b17_6) hcl rfl (Eq.mpr (L17_6_eq B cl n x0 x3 x4 x5 x6 H Q) h)
theorem L17_6_tidy {B : Base} {cl : CallK} {n : Nat} {x0 : AV} {x3 : AV} {x4 : Int} {x5 : Int} {x6 : Int} {y0 : AV} {y3 : AV} {H H2 : Heap} {Q : AV → Heap → Prop} {f : Nat → Nat} (hC : Cln n f H H2) (h0 : RV f H2.length y0 x0) (h3 : RV f H2.length y3 x3) (h : L17_6 B cl n y0 y3 x4 x5 x6 H2 Q) : L17_6 B cl n x0 x3 x4 x5 x6 H Q :=
  ALoop.tidy2 (l := l17_6) (a := b17_6) (env2 := (ev 48 [(0, y0), (3, y3), (4, .int .i64 (x4)), (5, .int .i64 (x5)), (6, .int .i64 (x6))])) hC (RVP.rve ⟨rfl, h0, ⟨rfl, h3, ⟨rfl, rfl, ⟨rfl, rfl, ⟨rfl, rfl, trivial⟩⟩⟩⟩⟩) h
theorem J17_5_eq (B : Base) (cl : CallK) (n : Nat) (x0 : AV) (x3 : AV) (x4 : Int) (x5 : Int) (x6 : Int) (H : Heap) (Q : AV → Heap → Prop) : awC B cl (ALoop n) b17_5 (keepEnv l17_5 (ev 48 [(0, x0), (3, x3), (4, .int .i64 (x4)), (5, .int .i64 (x5)), (6, .int .i64 (x6))])) H (k17_4 B cl n Q) =
  (ob (lenOf (x0)) fun k5 => (if (x4 : Int) = 0 then False else J17_3 B cl n x0 x3 (x4) (x5) (x6) (IntKind.i64.wrap (Int.tdiv ((k5 : Int)) (x4))) H Q)) := by kernel_rfl
theorem J17_5_in {B : Base} {cl : CallK} {n : Nat} {x0 : AV} {x3 : AV} {x4 : Int} {x5 : Int} {x6 : Int} {H : Heap} {Q : AV → Heap → Prop} (h :
  ob (lenOf (x0)) fun k5 => (if (x4 : Int) = 0 then False else J17_3 B cl n x0 x3 (x4) (x5) (x6) (IntKind.i64.wrap (Int.tdiv ((k5 : Int)) (x4))) H Q)) : J17_5 B cl n x0 x3 x4 x5 x6 H Q := (awC_keep (l := l17_5) (a := b17_5)).2 (Eq.mpr (J17_5_eq B cl n x0 x3 x4 x5 x6 H Q) h)
theorem J17_7_eq (B : Base) (cl : CallK) (n : Nat) (x3 : AV) (H : Heap) (Q : AV → Heap → Prop) : awC B cl (ALoop n) b17_7 (keepEnv l17_7 (ev 48 [(3, x3)])) H (fnQ B a17 (tidyK n Q)) =
  (tidyK n Q (x3) H) := by kernel_rfl
theorem J17_7_in {B : Base} {cl : CallK} {n : Nat} {x3 : AV} {H : Heap} {Q : AV → Heap → Prop} (h :
  tidyK n Q (x3) H) : J17_7 B cl n x3 H Q := (awC_keep (l := l17_7) (a := b17_7)).2 (Eq.mpr (J17_7_eq B cl n x3 H Q) h)
theorem J17_3_eq (B : Base) (cl : CallK) (n : Nat) (x0 : AV) (x3 : AV) (x4 : Int) (x5 : Int) (x6 : Int) (x7 : Int) (H : Heap) (Q : AV → Heap → Prop) : awC B cl (ALoop n) b17_3 (keepEnv l17_3 (ev 48 [(0, x0), (3, x3), (4, .int .i64 (x4)), (5, .int .i64 (x5)), (6, .int .i64 (x6)), (7, .int .i64 (x7))])) H (k17_6 B cl n Q) =
  (ob (lenOf (x0)) fun k6 => (if (x4 : Int) = 0 then False else bs (decide ((x6 : Int) < Int.tmod ((k6 : Int)) (x4))) (J17_2 B cl n x0 x3 (x4) (x5) (x6) (IntKind.i64.wrap (x7 + 1)) H Q) (J17_2 B cl n x0 x3 (x4) (x5) (x6) (x7) H Q))) := by kernel_rfl
theorem J17_3_in {B : Base} {cl : CallK} {n : Nat} {x0 : AV} {x3 : AV} {x4 : Int} {x5 : Int} {x6 : Int} {x7 : Int} {H : Heap} {Q : AV → Heap → Prop} (h :
  ob (lenOf (x0)) fun k6 => (if (x4 : Int) = 0 then False else bs (decide ((x6 : Int) < Int.tmod ((k6 : Int)) (x4))) (J17_2 B cl n x0 x3 (x4) (x5) (x6) (IntKind.i64.wrap (x7 + 1)) H Q) (J17_2 B cl n x0 x3 (x4) (x5) (x6) (x7) H Q))) : J17_3 B cl n x0 x3 x4 x5 x6 x7 H Q := (awC_keep (l := l17_3) (a := b17_3)).2 (Eq.mpr (J17_3_eq B cl n x0 x3 x4 x5 x6 x7 H Q) h)
theorem J17_2_eq (B : Base) (cl : CallK) (n : Nat) (x0 : AV) (x3 : AV) (x4 : Int) (x5 : Int) (x6 : Int) (x7 : Int) (H : Heap) (Q : AV → Heap → Prop) : awC B cl (ALoop n) b17_2 (keepEnv l17_2 (ev 48 [(0, x0), (3, x3), (4, .int .i64 (x4)), (5, .int .i64 (x5)), (6, .int .i64 (x6)), (7, .int .i64 (x7))])) H (k17_6 B cl n Q) =
  (ob (layParts [] []) fun c7 => slK H 4 0 c7 fun v8 H9 => wait (aop B E0 H9 (fun v10 _ => wait (aop B E0 H9 (fun v11 H12 => ob (layParts [.nils] [(0, 1, v11)]) fun c13 => slK H12 1 1 c13 fun v14 H15 => wait (aop B E0 H15 (fun v16 H17 => J17_1 B cl n x0 v16 (x4) (x5) (x6) (x7) H17 Q) (.append 1 24 (.const (x3)) (.const (v14))))) (.append 4 48 (.const (v8)) (.const (v10))))) (.sliceL 4 (.const (x0)) (some (.const (.int .i64 (x5)))) (some (.const (.int .i64 (IntKind.i64.wrap (x5 + x7))))) none))) := by kernel_rfl
theorem J17_2_in {B : Base} {cl : CallK} {n : Nat} {x0 : AV} {x3 : AV} {x4 : Int} {x5 : Int} {x6 : Int} {x7 : Int} {H : Heap} {Q : AV → Heap → Prop} (h :
  ob (layParts [] []) fun c7 => slK H 4 0 c7 fun v8 H9 => (aop B E0 H9 (fun v10 _ => (aop B E0 H9 (fun v11 H12 => ob (layParts [.nils] [(0, 1, v11)]) fun c13 => slK H12 1 1 c13 fun v14 H15 => (aop B E0 H15 (fun v16 H17 => J17_1 B cl n x0 v16 (x4) (x5) (x6) (x7) H17 Q) (.append 1 24 (.const (x3)) (.const (v14))))) (.append 4 48 (.const (v8)) (.const (v10))))) (.sliceL 4 (.const (x0)) (some (.const (.int .i64 (x5)))) (some (.const (.int .i64 (IntKind.i64.wrap (x5 + x7))))) none))) : J17_2 B cl n x0 x3 x4 x5 x6 x7 H Q := (awC_keep (l := l17_2) (a := b17_2)).2 (Eq.mpr (J17_2_eq B cl n x0 x3 x4 x5 x6 x7 H Q) (by simp only [wait_eq] at h ⊢; exact h))
theorem J17_1_eq (B : Base) (cl : CallK) (n : Nat) (x0 : AV) (x3 : AV) (x4 : Int) (x5 : Int) (x6 : Int) (x7 : Int) (H : Heap) (Q : AV → Heap → Prop) : awC B cl (ALoop n) b17_1 (keepEnv l17_1 (ev 48 [(0, x0), (3, x3), (4, .int .i64 (x4)), (5, .int .i64 (x5)), (6, .int .i64 (x6)), (7, .int .i64 (x7))])) H (k17_6 B cl n Q) =
  (J17_4 B cl n x0 x3 (x4) (IntKind.i64.wrap (x5 + x7)) (x6) H Q) := by kernel_rfl
theorem J17_1_in {B : Base} {cl : CallK} {n : Nat} {x0 : AV} {x3 : AV} {x4 : Int} {x5 : Int} {x6 : Int} {x7 : Int} {H : Heap} {Q : AV → Heap → Prop} (h :
  J17_4 B cl n x0 x3 (x4) (IntKind.i64.wrap (x5 + x7)) (x6) H Q) : J17_1 B cl n x0 x3 x4 x5 x6 x7 H Q := (awC_keep (l := l17_1) (a := b17_1)).2 (Eq.mpr (J17_1_eq B cl n x0 x3 x4 x5 x6 x7 H Q) h)
theorem J17_4_eq (B : Base) (cl : CallK) (n : Nat) (x0 : AV) (x3 : AV) (x4 : Int) (x5 : Int) (x6 : Int) (H : Heap) (Q : AV → Heap → Prop) : awC B cl (ALoop n) b17_4 (keepEnv l17_4 (ev 48 [(0, x0), (3, x3), (4, .int .i64 (x4)), (5, .int .i64 (x5)), (6, .int .i64 (x6))])) H (k17_4 B cl n Q) =
  (L17_6 B cl n x0 x3 (x4) (x5) (IntKind.i64.wrap (x6 + 1)) H Q) := by kernel_rfl
theorem J17_4_in {B : Base} {cl : CallK} {n : Nat} {x0 : AV} {x3 : AV} {x4 : Int} {x5 : Int} {x6 : Int} {H : Heap} {Q : AV → Heap → Prop} (h :
  L17_6 B cl n x0 x3 (x4) (x5) (IntKind.i64.wrap (x6 + 1)) H Q) : J17_4 B cl n x0 x3 x4 x5 x6 H Q := (awC_keep (l := l17_4) (a := b17_4)).2 (Eq.mpr (J17_4_eq B cl n x0 x3 x4 x5 x6 H Q) h)
theorem f17_eq (B : Base) (cl : CallK) (n : Nat) (x0 : AV) (H : Heap) (Q : AV → Heap → Prop) : fnK B cl (ALoop n) a17 [x0] H (tidyK n Q) =
  (ob (layParts [] []) fun c1 => slK H 1 0 c1 fun v2 H3 => L17_0 B cl n x0 v2 (0) H3 Q) := by kernel_rfl
theorem f17_in {B : Base} {x0 : AV} {H : Heap} {Q : AV → Heap → Prop} (h : ∀ n cl, n = H.length → cl = Cl B → LowH n H → LowL n [x0] →
  ob (layParts [] []) fun c1 => slK H 1 0 c1 fun v2 H3 => L17_0 B cl n x0 v2 (0) H3 Q) : Cl B 17 [x0] H Q := ACall.intro rfl fun h1 h2 => by
    have h3 := h _ _ rfl rfl h1 h2
    exact (Eq.mpr (f17_eq B (Cl B) H.length x0 H Q) h3)
end Go.Am
