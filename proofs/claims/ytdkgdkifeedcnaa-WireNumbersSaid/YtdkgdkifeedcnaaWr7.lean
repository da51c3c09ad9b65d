/- The law WireNumbers, walked. -/
import Derived.Test.YtdkgdkifeedcnaaWr6
namespace Go.Am
open Go

def eno (ok : Bool) : Int := if ok then 0 else 1

section
variable {B : Base} {n : Nat} {H G : Heap} {Q : AV → Heap → Prop} {x : Int}

theorem ask_num {k : Int} (hk : k = 4 ∨ k = 5) (hx : x ≤ 9223372036854775807) (h : ∀ v L, (∀ K : AV → Prop, K v → pLive v K) → Q (.tuple [v, .int .i64 (eno (numOk x))]) (H ++ L)) : Cl B 13 [.agg (Req.mk k [] [] [] x).row] H Q := by
  have e : askW (Req.mk k [] [] [] x) = !numOk x := by
    have h4 : w4 (Req.mk k [] [] [] x) = false := rfl
    have h1 : w1 (Req.mk k [] [] [] x) = false := by simp [w1]
    have h2 : w2 (Req.mk k [] [] [] x) = false := by simp [w2]
    unfold askW
    rw [h4, h1, h2]
    rcases hk with rfl | rfl <;> simp [w3]
  refine f13_ok (by show 2 ≤ k ∧ k ≤ 6; omega) hx (by simp) (fun hw L => ?_) fun hw v L hv => ?_
  · have := h .nils L fun K hK => hK
    rw [e] at hw
    have hn : numOk x = false := by simpa using hw
    rw [hn] at this; exact this
  · have := h v L fun K hK => Sl.live hv K hK
    rw [e] at hw
    have hn : numOk x = true := by simpa using hw
    rw [hn] at this; exact this
theorem say_num {k : Int} {r : Rep} (hk : 1 ≤ k ∧ k ≤ 6) (h0 : r.err = 0) (hl : r.last ≤ 9223372036854775807) (he : r.epoch ≤ 9223372036854775807) (e : sayW k r = !numOk x) (h : ∀ v L, (∀ K : AV → Prop, K v → pLive v K) → Q (.tuple [v, .int .i64 (eno (numOk x))]) (H ++ L)) : Cl B 17 [.int .i64 k, .agg r.row] H Q := by
  refine f17_ok hk (by rw [h0]; decide) hl he (fun hw L => ?_) fun hw v L hv => ?_
  · have := h .nils L fun K hK => hK
    rw [e] at hw
    have hn : numOk x = false := by simpa using hw
    rw [hn] at this; exact this
  · have := h v L fun K hK => Sl.live hv K hK
    rw [e] at hw
    have hn : numOk x = true := by simpa using hw
    rw [hn] at this; exact this
theorem say_k1 : sayW 1 ⟨0, x, 0⟩ = !numOk x := by simp [sayW, emptyB]
theorem say_k6 : sayW 6 ⟨0, x, x⟩ = !numOk x := by simp [sayW, emptyB]
theorem say_k4 : sayW 4 ⟨0, 0, x⟩ = !numOk x := by simp [sayW, emptyB]
theorem op_beq {a b c : Bool} {K : AV → Heap → Prop} (hc : c = (a == b)) (h : K (.bool c) G) : aop B E0 G K (.beq false (.const (.bool a)) (.const (.bool b))) := by
  subst hc
  simp only [aop, opK, Opd.look, ob_some, pBool_bool]
  exact bool_split (K := fun v => K v G) h
theorem eno_eq {ok : Bool} {K : AV → Prop} (h : K (.bool ok)) : ibinK .eql .i64 (eno ok) 0 K := by
  cases ok
  · exact ib_eq_no (by decide) h
  · exact ib_eq_yes rfl h

theorem f6_ok (hx : x ≤ 9223372036854775807) (h : Q (.bool true) H) : Cl B 6 [.int .i64 x] H Q := by
  refine f6_in fun n cl hn hcl hH hA => ?_
  subst hcl
  refine J6_7_in (f11_ok ?_)
  refine tyK_bool (J6_6_in ?_)
  have fin : ∀ L, tidyK n Q (.bool true) (H ++ L) := fun L => tidy_drop hn hH low_bool h
  have go : ∀ c : Bool, c = numOk x → J6_5 B (Cl B) n x (.bool true) (.bool c) H Q := fun c hc => by
    subst hc
    refine J6_5_in ?_
    rw [show layParts _ [(0, 1, .int .i64 4), (5, 1, .int .i64 x)] = some (Req.mk 4 [] [] [] x).row from rfl, ob_some]
    refine ask_num (.inl rfl) hx fun v1 L1 l1 => op_ext2 l1 (J6_4_in ?_)
    rw [show layParts _ [(0, 1, .int .i64 5), (5, 1, .int .i64 x)] = some (Req.mk 5 [] [] [] x).row from rfl, ob_some]
    refine ask_num (.inr rfl) hx fun v2 L2 l2 => op_ext2 l2 (J6_3_in ?_)
    rw [show layParts _ [(1, 1, .int .i64 x)] = some (Rep.mk 0 x 0).row from rfl, ob_some]
    refine say_num (by decide) rfl hx (show (0 : Int) ≤ 9223372036854775807 by decide) say_k1 fun v3 L3 l3 => op_ext2 l3 (J6_2_in ?_)
    rw [show layParts _ [(1, 1, .int .i64 x), (2, 1, .int .i64 x)] = some (Rep.mk 0 x x).row from rfl, ob_some]
    refine say_num (by decide) rfl hx hx say_k6 fun v4 L4 l4 => op_ext2 l4 (J6_1_in ?_)
    rw [show layParts _ [(2, 1, .int .i64 x)] = some (Rep.mk 0 0 x).row from rfl, ob_some]
    refine say_num (by decide) rfl (show (0 : Int) ≤ 9223372036854775807 by decide) hx say_k4 fun v5 L5 l5 => op_ext2 l5 (J6_0_in ?_)
    have same : ∀ b : Bool, true = (b == b) := fun b => by simp
    rw [pGuard_bool, bs_true, pInt_int]
    refine eno_eq (op_beq (same _) ?_)
    rw [pGuard_bool, bs_true, pInt_int]
    refine eno_eq (op_beq (same _) ?_)
    rw [pGuard_bool, bs_true, pInt_int]
    refine eno_eq (op_beq (same _) ?_)
    rw [pGuard_bool, bs_true, pInt_int]
    refine eno_eq (op_beq (same _) ?_)
    rw [pGuard_bool, bs_true, pInt_int]
    refine eno_eq (op_beq (same _) ?_)
    have := fin (L1 ++ L2 ++ L3 ++ L4 ++ L5)
    simpa using this
  refine bs_dec (fun h1 => ib_le (go _ ?_)) fun h1 => go false ?_
  · simp only [numOk]; rw [decide_eq_true (by omega : (0 : Int) ≤ x), Bool.true_and]
  · simp only [numOk]; rw [decide_eq_false (by omega : ¬ (0 : Int) ≤ x), Bool.false_and]
end

end Go.Am
