/- WireKinds: for all bytes and any first byte, the statement WireKinds answers true (bytes that are a request have its kind as their first byte, from 1 to 6; with another first byte they are no request of the same kind; bytes that are none tell the kind 0). Conditions: none but those of the given statement. -/
import Derived.Test.YtdkgdkifeedcnaaRows
import Derived.Test.YtdkgdkifeedcnaaWkB
import Derived.ProofKit
namespace Go.Proofs.Ytdkgdkifeedcnaa
open Go.ChangeShapes Go.WideShapes Go.ChangeAt Go.RowKit Go.Am

theorem Try.own : ownKnob Try.prog.godebug = none := by kernel_rfl
theorem Try.laidOut : laidOutB Try.prog = true := by kernel_rfl

set_option maxRecDepth 100000 in
theorem f_lifted (os : Os) (started : os.Started) (H : Type) (enc : TypeId × Value → H) :
    ReturnsInHanded {} Try.checked os 5 .any (Rows.wireKindsSpec.pre6 enc Try.prog Try.f5 Rows.wireKindsRow.domain false) (Rows.wireKindsSpec.post enc Try.prog Try.f5 false true false false) := by
  refine returnsInHanded_of_change (C := Try.checked) Try.own started (by kernel_rfl) Try.func5
    (ChangeSpec.witness6 (enc := enc) (C := Try.checked) false ⟨#[], #[.slice none 0 0, .int .u8 0], []⟩ 8 (by kernel_rfl) (by kernel_rfl) (by kernel_rfl) (by kernel_rfl)) ?_
  intro W base args ds gs before hval0 hW hcnd _
  have hval : ∀ (j : Nat) t v, Try.f5.params[j]? = some t → args[j]? = some v → Value.okWide Try.prog W .any base t v := hval0
  have hW' := hW
  obtain ⟨p, q, hA0, hV, rfl, hfz, hnd⟩ := hW
  have hA : DataW.TrodAll enc Try.prog W 0 (fun _ => true) true Try.f5.params.toList args.toList ds p := hA0
  rw [Try.params5] at hA hval
  obtain ⟨v0, v1, d0, d1, p0, p1, rfl, rfl, rfl, h0, h1⟩ := trodAll_two hA
  obtain ⟨rfl, rfl⟩ := trodVars_none hV
  obtain ⟨av, s, hv0, hs⟩ := arg_bytes (hval 0 27 v0 rfl rfl) h0
  have h1k := h1
  obtain ⟨a, rfl, rfl, rfl, wa⟩ := open_int under_byte (hval 1 5 v1 rfl rfl) h1
  obtain ⟨c, hc⟩ := byte_of (u := .int .u8 a) ⟨a, rfl, wa⟩
  have hc : a = (c.toNat : Int) := by injection hc
  subst hc
  refine (entry_true table_ok (show VRL 0 plc0 [av, .int .u8 (c.toNat : Int)] (#[v0, .int .u8 (c.toNat : Int)] : Array Value).toList from ⟨_, _, rfl, hv0, _, _, rfl, rfl, rfl⟩) (f5_ok hs fun _ => rfl)).mono fun e W' ⟨he, hb⟩ => ?_
  subst he
  have hlt : ∀ x ∈ p0, x.block < W.heap.size := fun x hx => by simpa using hW'.lt x (by simp [hx])
  exact ⟨_, rfl, _, _, _, [], _, [], hW', trodAll_mk1 (shut_bool (by kernel_rfl) true),
    trodAll_mk2 (Below.trod Try.laidOut (by kernel_rfl) (of_decide_eq_true (by kernel_rfl)) h0 hb hlt) (shut_int under_byte wa), rfl, hb.frame _, fun h => by cases h⟩

theorem f_holds : Rows.WireKindsSaid :=
  OpenClaim.holds_of_wide 5 Try.f5 rfl rfl rfl rfl rfl rfl rfl ⟨rfl, rfl, rfl, rfl, rfl⟩ rfl rfl rfl rfl rfl (by kernel_rfl) Try.func5 (by kernel_rfl)
    (of_decide_eq_true (by kernel_rfl)) (by unfold Func.isWrapper; first | (rw [if_pos (by decide +kernel)]; kernel_rfl) | (rw [if_neg (by decide +kernel)]; exact ⟨rfl, rfl⟩))
    (fun os started H enc _ => f_lifted os started H enc)

end Go.Proofs.Ytdkgdkifeedcnaa
