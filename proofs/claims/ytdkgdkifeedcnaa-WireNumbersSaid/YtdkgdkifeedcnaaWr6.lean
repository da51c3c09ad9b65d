/- The laws' small case, and the law WireNumbers, walked. -/
import Derived.Test.YtdkgdkifeedcnaaWr5
import Derived.Test.YtdkgdkifeedcnaaAg20
import Derived.Test.YtdkgdkifeedcnaaAg11
import Derived.Test.YtdkgdkifeedcnaaAg6
namespace Go.Am
open Go

section
variable {B : Base} {n : Nat} {H G : Heap} {Q : AV → Heap → Prop}

theorem f20_nil (h : ∀ L, Q (.tuple [.agg [.int .i64 0, .nils, .str [], .str [], .str [], .int .i64 0], .int .i64 2]) (H ++ L)) : Cl B 20 [.nils] H Q := by
  refine f20_in fun n cl hn hcl hH hA => op_alloc (J20_10_in ?_)
  rw [show lenOf AV.nils = some 0 from rfl, ob_some]
  refine bs_yes (by decide) ?_
  rw [show layParts [(.int .i64 0), .nils, (.str []), (.str []), (.str []), (.int .i64 0)] [] = some [.int .i64 0, .nils, .str [], .str [], .str [], .int .i64 0] from rfl, ob_some]
  refine op_st_last rfl rfl ?_
  rw [peekVN (n := 6) (by rw [get_app0]; rfl) rfl, ob_some]
  exact tidy_none (h _)

def q1 : Req := ⟨2, [97], [], [], 0⟩
def r1 : Rep := ⟨0, 3, 1⟩
def r2 : Rep := ⟨5, 0, 0⟩
theorem ask_q1 : askW q1 = false ∧ askF q1 = [2, 1, 97] := by
  refine ⟨by decide, ?_⟩
  show UInt8.ofNat 2 :: (putF 1 ++ [97]) = _
  unfold putF; rfl
theorem say_r1 : sayW 6 r1 = false ∧ sayF 6 r1 = [0, 3, 1] := by
  refine ⟨by decide, ?_⟩
  show putF 0 ++ (putF 3 ++ putF 1) = _
  unfold putF; rfl
theorem say_r2 : sayW 2 r2 = false ∧ sayF 2 r2 = [5] := by
  refine ⟨by decide, ?_⟩
  show putF 5 ++ [] = _
  unfold putF; rfl

theorem f11_ok (h : Q (.bool true) H) : Cl B 11 [] H Q := by
  refine f11_in fun n cl hn hcl hH hA => J11_4_in ?_
  subst hcl
  have fin : ∀ L, tidyK n Q (.bool true) (H ++ L) := fun L => tidy_drop hn hH low_bool h
  rw [show layParts _ [(0, 1, .int .i64 2), (2, 1, .str [97])] = some q1.row from rfl, ob_some]
  refine f13_ok (r := q1) (by decide) (by decide) (by decide) (fun e => by rw [ask_q1.1] at e; cases e) fun _ v1 L1 hv1 => ?_
  rw [ask_q1.2] at hv1
  refine op_ext2 (fun K hK => Sl.live hv1 K hK) (J11_3_in ?_)
  rw [show layParts _ [(1, 1, .int .i64 3), (2, 1, .int .i64 1)] = some r1.row from rfl, ob_some]
  refine f17_ok (r := r1) (by decide) (by decide) (by decide) (by decide) (fun e => by rw [say_r1.1] at e; cases e) fun _ v2 L2 hv2 => ?_
  rw [say_r1.2] at hv2
  refine op_ext2 (fun K hK => Sl.live hv2 K hK) (J11_2_in ?_)
  rw [show layParts _ [(0, 1, .int .i64 5)] = some r2.row from rfl, ob_some]
  refine f17_ok (r := r2) (by decide) (by decide) (by decide) (by decide) (fun e => by rw [say_r2.1] at e; cases e) fun _ v3 L3 hv3 => ?_
  rw [say_r2.2] at hv3
  refine op_ext2 (fun K hK => Sl.live hv3 K hK) (J11_1_in ?_)
  refine f20_nil fun L4 => ?_
  have ext : ∀ {K : AV → AV → Prop} {M : Heap} {c : List AV}, K (.agg c) (.int .i64 2) → pLive (.tuple [.agg c, .int .i64 2]) fun v => aop B E0 M (fun x _ => aop B E0 M (fun y _ => K x y) (.extract (some (.int .i64)) 1 (.const v))) (.extract none 0 (.const v)) := fun {K M c} hK => by
    show pInt .i64 (.int .i64 2) fun y => K (.agg c) (.int .i64 y)
    rw [pInt_int]; exact hK
  refine ext (op_alloc (op_st_last rfl rfl (J11_0_in ?_)))
  have g1 : Bs B (H ++ L1 ++ L2 ++ L3 ++ L4 ++ [.var [.int .i64 0, .nils, .str [], .str [], .str [], .int .i64 0]]) v1 [2, 1, 97] := hv1.pre.pre.pre.pre
  have g2 : Bs B (H ++ L1 ++ L2 ++ L3 ++ L4 ++ [.var [.int .i64 0, .nils, .str [], .str [], .str [], .int .i64 0]]) v2 [0, 3, 1] := hv2.pre.pre.pre
  have g3 : Bs B (H ++ L1 ++ L2 ++ L3 ++ L4 ++ [.var [.int .i64 0, .nils, .str [], .str [], .str [], .int .i64 0]]) v3 [5] := hv3.pre.pre
  refine op_toStr g1 ?_
  rw [pStr_str, pStr_str]
  refine bs_yes (by decide) ?_
  rw [pInt_int]
  refine bs_yes (by decide) (op_toStr g2 ?_)
  rw [pStr_str, pStr_str]
  refine bs_yes (by decide) ?_
  rw [pInt_int]
  refine bs_yes (by decide) (op_toStr g3 ?_)
  rw [pStr_str, pStr_str]
  refine bs_yes (by decide) ?_
  rw [pInt_int]
  refine bs_yes (by decide) ?_
  rw [pInt_int]
  refine ib_eq_yes rfl ?_
  have := fin (L1 ++ L2 ++ L3 ++ L4 ++ [.var [.int .i64 0, .nils, .str [], .str [], .str [], .int .i64 0]])
  simpa using this
end

end Go.Am
