/- DiskArmed, where what is read is of bulk at most 1048576: for any capacity, any steps, any n and any number that is kept the statement DiskArmed answers true (a disk that is armed with n is the same as one that is crashed itself ahead of its n-th call). Conditions: none but those of the given statement. -/
import Derived.Test.YtonfcbadaebjnaaRows
import Derived.Test.YtonfcbadaebjnaaDkA
import Derived.Test.YtonfcbadaebjnaaArD
import Derived.ProofKit
import Derived.OpenShut
import Derived.JoinedCond
namespace Go.Proofs.Ytonfcbadaebjnaa
open Go.ChangeShapes Go.WideShapes Go.ChangeAt Go.RowKit Go.Am

theorem Try.own : ownKnob Try.prog.godebug = none := by kernel_rfl
theorem Try.laidOut : laidOutB Try.prog = true := by kernel_rfl

set_option maxRecDepth 100000 in
theorem f_contract (H : Type) (enc : TypeId × Value → H) (W : World) (base : Nat) (args : Array Value) (ds gs : List (DataW H)) (before : List MemPlace)
    (hval0 : ∀ (j : Nat) t v, Try.f8.params[j]? = some t → args[j]? = some v → Value.okWide Try.prog W .any base t v)
    (hW : DataW.Whole enc Try.prog Try.f8.params.toList Rows.diskArmedSpec.vars false W args.toList ds gs before) (hk : Rows.uptoSmall H (ds ++ gs) = true) :
    Calls Try.prog 8 args W fun e W' => ∃ v, e = .returned v ∧ Rows.diskArmedSpec.post enc Try.prog Try.f8 false true false false W args v W' := by
  have hW' := hW
  obtain ⟨p, q, hA0, hV, rfl, hfz, hnd⟩ := hW
  have hA : DataW.TrodAll enc Try.prog W 0 (fun _ => true) true Try.f8.params.toList args.toList ds p := hA0
  have hval : ∀ (j : Nat) t v, Try.f8.params[j]? = some t → args[j]? = some v → Value.okWide Try.prog W .any base t v := hval0
  rw [Try.params8] at hA hval
  obtain ⟨v0, vs0, d0, ds0, p0, q0, hargs, rfl, rfl, h0, r0⟩ := trodAll_cons hA
  obtain ⟨v1, vs1, d1, ds1, p1, q1, hargs1, rfl, rfl, h1, r1⟩ := trodAll_cons r0
  obtain ⟨v2, vs2, d2, ds2, p2, q2, hargs2, rfl, rfl, h2, r2⟩ := trodAll_cons r1
  obtain ⟨v3, vs3, d3, ds3, p3, q3, hargs3, rfl, rfl, h3, r3⟩ := trodAll_cons r2
  obtain ⟨rfl, rfl, rfl⟩ := trodAll_nil r3
  obtain ⟨rfl, rfl⟩ := trodVars_none hV
  subst hargs3 hargs2 hargs1
  obtain rfl : args = #[v0, v1, v2, v3] := by cases args; simp_all
  obtain ⟨b0, hb0⟩ := has_b0 W
  obtain ⟨c, rfl, rfl, rfl, wc⟩ := open_int Try.underlying3 (hval 0 3 v0 rfl rfl) h0
  obtain ⟨a1, hv1, g1⟩ := arg_sliceZ (Zu.ok (X := H)) (by kernel_rfl) ck_ops hb0 (hval 1 44 v1 rfl rfl) h1 (small_each hk (by simp) _)
  obtain ⟨m, rfl, rfl, rfl, wm⟩ := open_int Try.underlying3 (hval 2 3 v2 rfl rfl) h2
  obtain ⟨k, rfl, rfl, rfl, wk⟩ := open_int Try.underlying3 (hval 3 3 v3 rfl rfl) h3
  obtain ⟨ops, hs0, hp⟩ := good_ops g1
  have hin : InO (baseW Try.prog b0 W) a1 (ops.map fun o => ⟨o.1, o.2.1, o.2.2.1, o.2.2.2.1, o.2.2.2.2.1, o.2.2.2.2.2.1, o.2.2.2.2.2.2⟩) := by
    refine ⟨by rw [List.map_map]; exact hs0, fun o ho => ?_⟩
    obtain ⟨x, hx, rfl⟩ := List.mem_map.1 ho
    exact ⟨(hp x hx).1, (hp x hx).2.1⟩
  have hkr : -9223372036854775808 ≤ k ∧ k ≤ 9223372036854775807 := by
    have : IntKind.i64.min ≤ k ∧ k ≤ IntKind.i64.max := by simpa [Lit.wf] using wk
    have e1 : IntKind.i64.max = 9223372036854775807 := by decide
    have e2 : IntKind.i64.min = -9223372036854775808 := by decide
    omega
  have hcr : -9223372036854775808 ≤ c ∧ c ≤ 9223372036854775807 := by
    have : IntKind.i64.min ≤ c ∧ c ≤ IntKind.i64.max := by simpa [Lit.wf] using wc
    have e1 : IntKind.i64.max = 9223372036854775807 := by decide
    have e2 : IntKind.i64.min = -9223372036854775808 := by decide
    omega
  refine (entryW table_ok (show VRL 0 plc0 [.int .i64 c, a1, .int .i64 m, .int .i64 k] (#[.int .i64 c, v1, .int .i64 m, .int .i64 k] : Array Value).toList from ⟨_, _, rfl, rfl, _, _, rfl, hv1, _, _, rfl, rfl, _, _, rfl, rfl, rfl⟩) (f8_ok hin hcr hkr fun _ => rfl)).mono fun e W' ⟨he, hb⟩ => ?_
  subst he
  have hlt : ∀ x ∈ [] ++ (p1 ++ ([] ++ ([] ++ []))), x.block < W.heap.size := fun x hx => by simpa using hW'.lt x (by simpa using hx)
  have hlt1 : ∀ x ∈ p1, x.block < W.heap.size := fun x hx => hlt x (by simp [hx])
  exact ⟨_, rfl, _, _, _, [], _, [], hW', trodAll_mk1 (shut_bool (by kernel_rfl) true),
    trodAll_cons_mk (shut_int Try.underlying3 wc) (trodAll_cons_mk (Below.trod Try.laidOut (by kernel_rfl) (of_decide_eq_true (by kernel_rfl)) h1 hb hlt1) (trodAll_mk2 (shut_int Try.underlying3 wm) (shut_int Try.underlying3 wk))), rfl, hb.frame _, fun h => by cases h⟩

set_option maxRecDepth 100000 in
theorem f_lifted (os : Os) (started : os.Started) (H : Type) (enc : TypeId × Value → H) (F : Stop.Interp) :
    ReturnsInHanded {} Try.checked os 8 .any ((Rows.OpenSpec.upto Rows.diskArmedSpec).pre6 enc Try.prog Try.f8 Rows.diskArmedUptoRow.domain false) (((Rows.OpenSpec.upto Rows.diskArmedSpec).at F).post enc Try.prog Try.f8 false true false false) := by
  refine returnsInHanded_of_cond (C := Try.checked) (s := Rows.OpenSpec.upto Rows.diskArmedSpec) (k := Rows.uptoSmall) rfl Try.own started (by kernel_rfl) Try.func8
    (OpenSpec.witness (enc := enc) (C := Try.checked) (s := Rows.OpenSpec.upto Rows.diskArmedSpec) (k := Rows.uptoSmall) rfl false ⟨#[], #[.int .i64 0, .slice none 0 0, .int .i64 0, .int .i64 0], []⟩ 8 (by kernel_rfl) (by kernel_rfl) (by kernel_rfl)
      (x := ([.lit (.int .i64 0), .nil, .lit (.int .i64 0), .lit (.int .i64 0)], [], [])) (by kernel_rfl) rfl (by kernel_rfl)) ?_
  intro W base args ds gs before hval hW _ hk _
  exact f_contract H enc W base args ds gs before hval hW hk

theorem f_holds : Rows.DiskArmedUptoSaid :=
  OpenClaim.holds_of_cond 8 Try.f8 rfl rfl rfl rfl rfl rfl rfl ⟨rfl, rfl, rfl, rfl, rfl⟩ rfl rfl rfl rfl rfl (by kernel_rfl) Try.func8 (by kernel_rfl)
    (of_decide_eq_true (by kernel_rfl)) (by unfold Func.isWrapper; first | (rw [if_pos (by decide +kernel)]; kernel_rfl) | (rw [if_neg (by decide +kernel)]; exact ⟨rfl, rfl⟩))
    (fun os started H enc _ F => f_lifted os started H enc F)

end Go.Proofs.Ytonfcbadaebjnaa
