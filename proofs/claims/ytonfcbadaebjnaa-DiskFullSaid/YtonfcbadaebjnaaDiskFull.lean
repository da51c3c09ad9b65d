/- DiskFull: for any capacity, any pieces and any places the statement DiskFull answers true (each piece that has room is there, each other one changes nothing; what is deleted is room again). Conditions: none but those of the given statement. -/
import Derived.Test.YtonfcbadaebjnaaRows
import Derived.Test.YtonfcbadaebjnaaDkA
import Derived.Test.YtonfcbadaebjnaaArD
import Derived.ProofKit
import Derived.OpenShut
import Derived.SizedLaws
namespace Go.Proofs.Ytonfcbadaebjnaa
open Go.ChangeShapes Go.WideShapes Go.ChangeAt Go.RowKit Go.Am

theorem Try.own : ownKnob Try.prog.godebug = none := by kernel_rfl
theorem Try.laidOut : laidOutB Try.prog = true := by kernel_rfl

set_option maxRecDepth 100000 in
theorem f_lifted (os : Os) (started : os.Started) (H : Type) (enc : TypeId × Value → H) :
    ReturnsInHanded {} Try.checked os 4 .any (Rows.diskFullSpec.pre6 enc Try.prog Try.f4 Rows.diskFullRow.domain false) (Rows.diskFullSpec.post enc Try.prog Try.f4 false true false false) := by
  refine returnsInHanded_of_change_sized (C := Try.checked) Try.own started (by kernel_rfl) Try.func4
    (ChangeSpec.witness6 (enc := enc) (C := Try.checked) false ⟨#[], #[.int .i64 0, .slice none 0 0, .slice none 0 0], []⟩ 8 (by kernel_rfl) (by kernel_rfl) (by kernel_rfl) (by kernel_rfl)) ?_
  intro W base args ds gs before hval0 hW hcnd hsz _
  have hval : ∀ (j : Nat) t v, Try.f4.params[j]? = some t → args[j]? = some v → Value.okWide Try.prog W .any base t v := hval0
  have hW' := hW
  obtain ⟨p, q, hA0, hV, rfl, hfz, hnd⟩ := hW
  have hA : DataW.TrodAll enc Try.prog W 0 (fun _ => true) true Try.f4.params.toList args.toList ds p := hA0
  have hsz : (DataW.weightsEach Try.prog (Try.f4.params.toList ++ Rows.diskFullSpec.plain.varTypes Try.prog) (ds ++ gs)).all (· ≤ reachBytes) = true := hsz
  rw [Try.params4] at hA hval hsz
  obtain ⟨v0, v1, v2, d0, d1, d2, p0, p1, p2, rfl, rfl, rfl, h0, h1, h2⟩ := trodAll_three hA
  obtain ⟨rfl, rfl⟩ := trodVars_none hV
  obtain ⟨k, rfl, rfl, rfl, wk⟩ := open_int Try.underlying3 (hval 0 3 v0 rfl rfl) h0
  obtain ⟨b0, hb0⟩ := has_b0 W
  obtain ⟨a1, hv1, g1⟩ := arg_sliceZ (Zw.ok (X := H)) (by kernel_rfl) ck_pieces hb0 (hval 1 22 v1 rfl rfl) h1 (wide_each hsz (j := 1) rfl rfl)
  obtain ⟨a2, hv2, g2⟩ := arg_sliceZ (Zw.ok (X := H)) (by kernel_rfl) ck_bools hb0 (hval 2 37 v2 rfl rfl) h2 (wide_each hsz (j := 2) rfl rfl)
  obtain ⟨pcs, hs1, hp⟩ := good_pieces g1
  obtain ⟨ws, hs2⟩ := good_bools g2
  refine (entryW table_ok (show VRL 0 plc0 [.int .i64 k, a1, a2] (#[.int .i64 k, v1, v2] : Array Value).toList from ⟨_, _, rfl, rfl, _, _, rfl, hv1, _, _, rfl, hv2, rfl⟩) (f4_ok ⟨hs1, fun p hp' => ⟨(hp p hp').1, Nat.le_trans (hp p hp').2 (by omega)⟩, hs2⟩ fun _ => rfl)).mono fun e W' ⟨he, hb⟩ => ?_
  subst he
  have hlt1 : ∀ x ∈ p1, x.block < W.heap.size := fun x hx => by simpa using hW'.lt x (by simp [hx])
  have hlt2 : ∀ x ∈ p2, x.block < W.heap.size := fun x hx => by simpa using hW'.lt x (by simp [hx])
  exact ⟨_, rfl, _, _, _, [], _, [], hW', trodAll_mk1 (shut_bool (by kernel_rfl) true),
    trodAll_mk3 (shut_int Try.underlying3 wk) (Below.trod Try.laidOut (by kernel_rfl) (of_decide_eq_true (by kernel_rfl)) h1 hb hlt1) (Below.trod Try.laidOut (by kernel_rfl) (of_decide_eq_true (by kernel_rfl)) h2 hb hlt2), rfl, hb.frame _, fun h => by cases h⟩

theorem f_holds : Rows.DiskFullSaid :=
  OpenClaim.holds_of_wide 4 Try.f4 rfl rfl rfl rfl rfl rfl rfl ⟨rfl, rfl, rfl, rfl, rfl⟩ rfl rfl rfl rfl rfl (by kernel_rfl) Try.func4 (by kernel_rfl)
    (of_decide_eq_true (by kernel_rfl)) (by unfold Func.isWrapper; first | (rw [if_pos (by decide +kernel)]; kernel_rfl) | (rw [if_neg (by decide +kernel)]; exact ⟨rfl, rfl⟩))
    (fun os started H enc _ => f_lifted os started H enc)

end Go.Proofs.Ytonfcbadaebjnaa
