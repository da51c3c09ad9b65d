/- MergeApart: for all two lists of entries, the statement MergeApart answers true (lists that have no key together stand beside one another: the first, and then the second one, whichever is the newer). Conditions: none but those of the given statement. -/
import Derived.Test.YtcnmdodgjbfmdaaRows
import Derived.Test.YtcnmdodgjbfmdaaMt8A
import Derived.Test.YtcnmdodgjbfmdaaMbA
import Derived.ProofKit
import Derived.SizedLaws
namespace Go.Proofs.Ytcnmdodgjbfmdaa
open Go.ChangeShapes Go.WideShapes Go.ChangeAt Go.RowKit Go.Am

theorem Try.own : ownKnob Try.prog.godebug = none := by kernel_rfl
theorem Try.laidOut : laidOutB Try.prog = true := by kernel_rfl

set_option maxRecDepth 100000 in
theorem f_lifted (os : Os) (started : os.Started) (H : Type) (enc : TypeId × Value → H) :
    ReturnsInHanded {} Try.checked os 8 .any (Rows.mergeApartSpec.pre6 enc Try.prog Try.f8 Rows.mergeApartRow.domain false) (Rows.mergeApartSpec.post enc Try.prog Try.f8 false true false false) := by
  refine returnsInHanded_of_change_sized (C := Try.checked) Try.own started (by kernel_rfl) Try.func8
    (ChangeSpec.witness6 (enc := enc) (C := Try.checked) false ⟨#[], #[.slice none 0 0, .slice none 0 0], []⟩ 8 (by kernel_rfl) (by kernel_rfl) (by kernel_rfl) (by kernel_rfl)) ?_
  intro W base args ds gs before hval0 hW hcnd hsz _
  have hval : ∀ (j : Nat) t v, Try.f8.params[j]? = some t → args[j]? = some v → Value.okWide Try.prog W .any base t v := hval0
  have hW' := hW
  obtain ⟨p, q, hA0, hV, rfl, hfz, hnd⟩ := hW
  have hA : DataW.TrodAll enc Try.prog W 0 (fun _ => true) true Try.f8.params.toList args.toList ds p := hA0
  rw [Try.params8] at hA hval hsz
  obtain ⟨v0, v1, d0, d1, p0, p1, rfl, rfl, rfl, h0, h1⟩ := trodAll_two hA
  obtain ⟨rfl, rfl⟩ := trodVars_none hV
  have hsz2 : (DataW.weightsEach Try.prog [25, 25] [d0, d1]).all (· ≤ reachBytes) = true := hsz
  simp only [DataW.weightsEach, List.all_append, Bool.and_eq_true, List.all_eq_true, decide_eq_true_eq] at hsz2
  have hr : reachBytes ≤ 140737488355328 := by decide
  obtain ⟨av, l, hv0, hs, hkl⟩ := arg_listK (N := 140737488355328) (hval 0 25 v0 rfl rfl) h0 fun m hm => Nat.le_trans (hsz2.1 m hm) hr
  obtain ⟨aw, k, hv1, hk, hkk⟩ := arg_listK (N := 140737488355328) (hval 1 25 v1 rfl rfl) h1 fun m hm => Nat.le_trans (hsz2.2.1 m hm) hr
  refine (entry_true table_ok (show VRL 0 plc0 [av, aw] (#[v0, v1] : Array Value).toList from ⟨_, _, rfl, hv0, _, _, rfl, hv1, rfl⟩) (f8_ok hs hk hkl hkk fun _ => rfl)).mono fun e W' ⟨he, hb⟩ => ?_
  subst he
  have hlt0 : ∀ x ∈ p0, x.block < W.heap.size := fun x hx => by simpa using hW'.lt x (by simp [hx])
  have hlt1 : ∀ x ∈ p1, x.block < W.heap.size := fun x hx => by simpa using hW'.lt x (by simp [hx])
  exact ⟨_, rfl, _, _, _, [], _, [], hW', trodAll_mk1 (shut_bool (by kernel_rfl) true),
    trodAll_mk2 (Below.trod Try.laidOut (by kernel_rfl) (of_decide_eq_true (by kernel_rfl)) h0 hb hlt0) (Below.trod Try.laidOut (by kernel_rfl) (of_decide_eq_true (by kernel_rfl)) h1 hb hlt1), rfl, hb.frame _, fun h => by cases h⟩

theorem f_holds : Rows.MergeApartSaid :=
  OpenClaim.holds_of_wide 8 Try.f8 rfl rfl rfl rfl rfl rfl rfl ⟨rfl, rfl, rfl, rfl, rfl⟩ rfl rfl rfl rfl rfl (by kernel_rfl) Try.func8 (by kernel_rfl)
    (of_decide_eq_true (by kernel_rfl)) (by unfold Func.isWrapper; first | (rw [if_pos (by decide +kernel)]; kernel_rfl) | (rw [if_neg (by decide +kernel)]; exact ⟨rfl, rfl⟩))
    (fun os started H enc _ => f_lifted os started H enc)

end Go.Proofs.Ytcnmdodgjbfmdaa
