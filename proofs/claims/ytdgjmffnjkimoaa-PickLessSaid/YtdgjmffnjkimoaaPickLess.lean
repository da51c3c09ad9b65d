/- PickLess: for all tables and counts the statement PickLess answers true (each step has a lesser score). Conditions: none but those of the given statement. -/
import Derived.Test.YtdgjmffnjkimoaaRows
import Derived.Test.YtdgjmffnjkimoaaPl4
import Derived.ProofKit
namespace Go.Proofs.Ytdgjmffnjkimoaa
open Go.ChangeShapes Go.WideShapes Go.ChangeAt Go.RowKit Go.Am

section
variable {X : Type} {enc : TypeId × Value → X} {W : World} {base : Nat}
/-- A slice of numbers among the arguments. -/
theorem arg_ints {v : Value} {d : DataW X} {p : List MemPlace} (hval : Value.okWide Try.prog W .any base 24 v) (hd : DataW.Trod enc Try.prog W 0 (fun _ => true) true 24 v d p) :
    ∃ (av : AV) (cs : List Int), VR 0 plc0 av v ∧ Sl (baseOf W) [] 1 av (cs.map zrow) := by
  obtain ⟨av, rows, h1, h2, h3⟩ := arg_slice (e := 3) Try.underlying24 kinds_int (by kernel_rfl) (by decide) hval hd
  have key : ∀ rows : List (List AV), (∀ r, r ∈ rows → rowIs [.int .i64] r) → ∃ cs : List Int, rows = cs.map zrow := fun rows => by
    induction rows with
    | nil => intro _; exact ⟨[], rfl⟩
    | cons r rs ih =>
      intro h
      obtain ⟨cs, hc⟩ := ih fun y hy => h y (List.mem_cons_of_mem _ hy)
      obtain ⟨hl, hg⟩ := h r (List.mem_cons_self ..)
      obtain ⟨u, h4, c, rfl, _⟩ := hg 0 (.int .i64) rfl
      match r, hl, h4 with
      | [a], _, h4 =>
        simp at h4; subst h4
        exact ⟨c :: cs, by rw [hc]; rfl⟩
  obtain ⟨cs, rfl⟩ := key rows h3
  exact ⟨av, cs, h1, h2⟩
end

theorem Try.own : ownKnob Try.prog.godebug = none := by kernel_rfl
theorem Try.laidOut : laidOutB Try.prog = true := by kernel_rfl

set_option maxRecDepth 100000 in
theorem f_lifted (os : Os) (started : os.Started) (H : Type) (enc : TypeId × Value → H) :
    ReturnsInHanded {} Try.checked os 4 .any (Rows.pickLessSpec.pre6 enc Try.prog Try.f4 Rows.pickLessRow.domain false) (Rows.pickLessSpec.post enc Try.prog Try.f4 false true false false) := by
  refine returnsInHanded_of_change (C := Try.checked) Try.own started (by kernel_rfl) Try.func4
    (ChangeSpec.witness6 (enc := enc) (C := Try.checked) false ⟨#[], #[.slice none 0 0, .slice none 0 0], []⟩ 8 (by kernel_rfl) (by kernel_rfl) (by kernel_rfl) (by kernel_rfl)) ?_
  intro W base args ds gs before hval0 hW hcnd _
  have hval : ∀ (j : Nat) t v, Try.f4.params[j]? = some t → args[j]? = some v → Value.okWide Try.prog W .any base t v := hval0
  have hW' := hW
  obtain ⟨p, q, hA0, hV, rfl, hfz, hnd⟩ := hW
  have hA : DataW.TrodAll enc Try.prog W 0 (fun _ => true) true Try.f4.params.toList args.toList ds p := hA0
  rw [Try.params4] at hA hval
  obtain ⟨v0, v1, d0, d1, p0, p1, rfl, rfl, rfl, h0, h1⟩ := trodAll_two hA
  obtain ⟨rfl, rfl⟩ := trodVars_none hV
  obtain ⟨av, all, hv0, hs, hok⟩ := arg_tabs (hval 0 22 v0 rfl rfl) h0
  obtain ⟨av1, cs, hv1, hs1⟩ := arg_ints (hval 1 24 v1 rfl rfl) h1
  refine (entry_true table_ok (show VRL 0 plc0 [av, av1] (#[v0, v1] : Array Value).toList from ⟨_, _, rfl, hv0, _, _, rfl, hv1, rfl⟩) (f4_ok hs (fun t ht => (hok t ht).1) hs1 rfl)).mono fun e W' ⟨he, hb⟩ => ?_
  subst he
  have hlt : ∀ x ∈ p0, x.block < W.heap.size := fun x hx => by simpa using hW'.lt x (by simp [hx])
  have hlt1 : ∀ x ∈ p1, x.block < W.heap.size := fun x hx => by simpa using hW'.lt x (by simp [hx])
  exact ⟨_, rfl, _, _, _, [], _, [], hW', trodAll_mk1 (shut_bool (by kernel_rfl) true),
    trodAll_mk2 (Below.trod Try.laidOut (by kernel_rfl) (of_decide_eq_true (by kernel_rfl)) h0 hb hlt) (Below.trod Try.laidOut (by kernel_rfl) (of_decide_eq_true (by kernel_rfl)) h1 hb hlt1), rfl, hb.frame _, fun h => by cases h⟩

theorem f_holds : Rows.PickLessSaid :=
  OpenClaim.holds_of_wide 4 Try.f4 rfl rfl rfl rfl rfl rfl rfl ⟨rfl, rfl, rfl, rfl, rfl⟩ rfl rfl rfl rfl rfl (by kernel_rfl) Try.func4 (by kernel_rfl)
    (of_decide_eq_true (by kernel_rfl)) (by unfold Func.isWrapper; first | (rw [if_pos (by decide +kernel)]; kernel_rfl) | (rw [if_neg (by decide +kernel)]; exact ⟨rfl, rfl⟩))
    (fun os started H enc _ => f_lifted os started H enc)

end Go.Proofs.Ytdgjmffnjkimoaa
