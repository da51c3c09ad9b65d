/- DiskApart: for any steps, and any steps on the disk and on its clone, the statement DiskApart answers true (neither hears of what is done to the other one). Conditions: none but those of the given statement. -/
import Derived.Test.YtonfcbadaebjnaaRows
import Derived.Test.YtonfcbadaebjnaaDkA
import Derived.Test.YtonfcbadaebjnaaArD
import Derived.ProofKit
import Derived.OpenShut
import Derived.SizedLaws
namespace Go.Proofs.Ytonfcbadaebjnaa
open Go.ChangeShapes Go.WideShapes Go.ChangeAt Go.RowKit Go.Am

theorem Try.own : ownKnob Try.prog.godebug = none := by kernel_rfl
theorem Try.laidOut : laidOutB Try.prog = true := by kernel_rfl

set_option maxRecDepth 100000 in
theorem f_lifted (os : Os) (started : os.Started) (H : Type) (enc : TypeId × Value → H) :
    ReturnsInHanded {} Try.checked os 10 .any (Rows.diskApartSpec.pre6 enc Try.prog Try.f10 Rows.diskApartRow.domain false) (Rows.diskApartSpec.post enc Try.prog Try.f10 false true false false) := by
  refine returnsInHanded_of_change_sized (C := Try.checked) Try.own started (by kernel_rfl) Try.func10
    (ChangeSpec.witness6 (enc := enc) (C := Try.checked) false ⟨#[], #[.slice none 0 0, .slice none 0 0, .slice none 0 0], []⟩ 8 (by kernel_rfl) (by kernel_rfl) (by kernel_rfl) (by kernel_rfl)) ?_
  intro W base args ds gs before hval0 hW hcnd hsz _
  have hval : ∀ (j : Nat) t v, Try.f10.params[j]? = some t → args[j]? = some v → Value.okWide Try.prog W .any base t v := hval0
  have hW' := hW
  obtain ⟨p, q, hA0, hV, rfl, hfz, hnd⟩ := hW
  have hA : DataW.TrodAll enc Try.prog W 0 (fun _ => true) true Try.f10.params.toList args.toList ds p := hA0
  have hsz : (DataW.weightsEach Try.prog (Try.f10.params.toList ++ Rows.diskApartSpec.plain.varTypes Try.prog) (ds ++ gs)).all (· ≤ reachBytes) = true := hsz
  rw [Try.params10] at hA hval hsz
  obtain ⟨v0, v1, v2, d0, d1, d2, p0, p1, p2, rfl, rfl, rfl, h0, h1, h2⟩ := trodAll_three hA
  obtain ⟨rfl, rfl⟩ := trodVars_none hV
  obtain ⟨b0, hb0⟩ := has_b0 W
  obtain ⟨a0, hv0, g0⟩ := arg_sliceZ (Zw.ok (X := H)) (by kernel_rfl) ck_ops hb0 (hval 0 44 v0 rfl rfl) h0 (wide_each hsz (j := 0) rfl rfl)
  obtain ⟨a1, hv1, g1⟩ := arg_sliceZ (Zw.ok (X := H)) (by kernel_rfl) ck_ops hb0 (hval 1 44 v1 rfl rfl) h1 (wide_each hsz (j := 1) rfl rfl)
  obtain ⟨a2, hv2, g2⟩ := arg_sliceZ (Zw.ok (X := H)) (by kernel_rfl) ck_ops hb0 (hval 2 44 v2 rfl rfl) h2 (wide_each hsz (j := 2) rfl rfl)
  have hin : ∀ {a : AV}, GoodZ Try.prog b0 W 140737488351232 5 (.sl 47) a → ∃ ops : List OpR, InQ (baseW Try.prog b0 W) a ops := fun {a} g => by
    obtain ⟨ops, hs0, hp⟩ := good_ops g
    refine ⟨ops.map fun o => ⟨o.1, o.2.1, o.2.2.1, o.2.2.2.1, o.2.2.2.2.1, o.2.2.2.2.2.1, o.2.2.2.2.2.2⟩, by rw [List.map_map]; exact hs0, fun o ho => ?_, fun o ho => ?_⟩
    · obtain ⟨x, hx, rfl⟩ := List.mem_map.1 ho
      exact (hp x hx).1
    · obtain ⟨x, hx, rfl⟩ := List.mem_map.1 ho
      exact ⟨(hp x hx).2.2.2.1, (hp x hx).2.2.2.2⟩
  obtain ⟨ops, q0⟩ := hin g0
  obtain ⟨mine, q1⟩ := hin g1
  obtain ⟨oth, q2⟩ := hin g2
  refine (entryW table_ok (show VRL 0 plc0 [a0, a1, a2] (#[v0, v1, v2] : Array Value).toList from ⟨_, _, rfl, hv0, _, _, rfl, hv1, _, _, rfl, hv2, rfl⟩) (f10_ok q0 q1 q2 fun _ => rfl)).mono fun e W' ⟨he, hb⟩ => ?_
  subst he
  have hlt0 : ∀ x ∈ p0, x.block < W.heap.size := fun x hx => by simpa using hW'.lt x (by simp [hx])
  have hlt1 : ∀ x ∈ p1, x.block < W.heap.size := fun x hx => by simpa using hW'.lt x (by simp [hx])
  have hlt2 : ∀ x ∈ p2, x.block < W.heap.size := fun x hx => by simpa using hW'.lt x (by simp [hx])
  exact ⟨_, rfl, _, _, _, [], _, [], hW', trodAll_mk1 (shut_bool (by kernel_rfl) true),
    trodAll_mk3 (Below.trod Try.laidOut (by kernel_rfl) (of_decide_eq_true (by kernel_rfl)) h0 hb hlt0) (Below.trod Try.laidOut (by kernel_rfl) (of_decide_eq_true (by kernel_rfl)) h1 hb hlt1) (Below.trod Try.laidOut (by kernel_rfl) (of_decide_eq_true (by kernel_rfl)) h2 hb hlt2), rfl, hb.frame _, fun h => by cases h⟩

theorem f_holds : Rows.DiskApartSaid :=
  OpenClaim.holds_of_wide 10 Try.f10 rfl rfl rfl rfl rfl rfl rfl ⟨rfl, rfl, rfl, rfl, rfl⟩ rfl rfl rfl rfl rfl (by kernel_rfl) Try.func10 (by kernel_rfl)
    (of_decide_eq_true (by kernel_rfl)) (by unfold Func.isWrapper; first | (rw [if_pos (by decide +kernel)]; kernel_rfl) | (rw [if_neg (by decide +kernel)]; exact ⟨rfl, rfl⟩))
    (fun os started H enc _ => f_lifted os started H enc)

end Go.Proofs.Ytonfcbadaebjnaa
