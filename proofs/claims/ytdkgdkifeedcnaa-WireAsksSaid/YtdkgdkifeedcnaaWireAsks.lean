/- WireAsks: for every request the statement WireAsks answers true (its bytes, or that it has none, are the document's; what was handed in stays). Conditions: none but those of the given statement. -/
import Derived.Test.YtdkgdkifeedcnaaRows
import Derived.Test.YtdkgdkifeedcnaaWaA
import Derived.Test.YtdkgdkifeedcnaaAmE
import Derived.ProofKit
namespace Go.Proofs.Ytdkgdkifeedcnaa
open Go.ChangeShapes Go.WideShapes Go.ChangeAt Go.RowKit Go.Am

section
variable {X : Type} {enc : TypeId × Value → X} {W : World} {base : Nat}

theorem trod_fields {P : Program} {w : World} {b : Nat} {sp : Nat → Bool} {held : Bool} {t : TypeId} {fs : Array Field} {fuel : Nat} {cs : List Value} {x : DataW X × List MemPlace} (ht : P.underlying t = some (.struct fs)) (h : DataW.trod enc P w b sp held fuel t cs = some x) :
    ∃ m, ∀ f ∈ fs.toList, ∃ y, DataW.trod enc P w b sp held m f.type ((cs.drop f.offset).take (P.cellsOf f.type)) = some y := by
  cases fuel with
  | zero => simp [DataW.trod] at h
  | succ m =>
    simp only [DataW.trod, ht] at h
    split at h
    · obtain ⟨ys, hys, _⟩ := Option.map_eq_some_iff.1 h
      exact ⟨m, mapM_all hys⟩
    · cases h

set_option maxRecDepth 100000

theorem kinds_ent : kinds Try.prog 6 68 = some [.str, .str, .bool, .int .i64] := by kernel_rfl
theorem kinds_int : kinds Try.prog 6 3 = some [.int .i64] := by kernel_rfl
theorem kinds_str : kinds Try.prog 6 9 = some [.str] := by kernel_rfl
theorem cells_ent : Try.prog.cellsOf 68 = 4 := by kernel_rfl
theorem types_req : Try.prog.cellTypes Try.prog.depth 24 = some [3, 22, 9, 9, 9, 3] := by kernel_rfl
theorem cells_req : Try.prog.cellsOf 24 = 6 := by kernel_rfl

theorem ents_of_rows : ∀ {rows : List (List AV)}, (∀ r, r ∈ rows → rowIs [.str, .str, .bool, .int .i64] r) → ∃ l : List Ent, rows = l.map Ent.row
  | [], _ => ⟨[], rfl⟩
  | r :: rs, h => by
    obtain ⟨l, hl⟩ := ents_of_rows (rows := rs) fun x hx => h x (List.mem_cons_of_mem _ hx)
    obtain ⟨hlen, hg⟩ := h r (List.mem_cons_self ..)
    obtain ⟨_, g0, k, rfl, _⟩ := hg 0 .str rfl
    obtain ⟨_, g1, v, rfl, _⟩ := hg 1 .str rfl
    obtain ⟨_, g2, b, rfl⟩ := hg 2 .bool rfl
    obtain ⟨_, g3, n, rfl, _⟩ := hg 3 (.int .i64) rfl
    match r, hlen, g0, g1, g2, g3 with
    | [a, b', c, d], _, g0, g1, g2, g3 =>
      simp at g0 g1 g2 g3
      subst g0 g1 g2 g3
      exact ⟨⟨k, v, b, n⟩ :: l, by rw [hl]; rfl⟩

theorem one_cell {t : TypeId} {ty : Ty} {m : Nat} {c : Value} {y : DataW X × List MemPlace} (hk : kinds Try.prog 6 t = some [ty]) (h : DataW.trod enc Try.prog W 0 (fun _ => true) true m t [c] = some y) : ∃ u, baseAv c = some u ∧ avIs ty u := by
  have := kinds_ok 6 t [ty] m [c] y hk h
  obtain ⟨z, hz, hc⟩ := this.2 0 ty rfl
  simp at hz; subst hz
  exact cellIs_av hc

/-- A request among the arguments. -/
theorem arg_req {v : Value} {d : DataW X} {p : List MemPlace} (hval : Value.okWide Try.prog W .any base 24 v) (hd : DataW.Trod enc Try.prog W 0 (fun _ => true) true 24 v d p) :
    ∃ (r : Rq) (ev : AV), VR 0 plc0 (.agg (r.row ev)) v ∧ Sl (baseOf W) [] 4 ev (r.ents.map Ent.row) ∧ r.epoch ≤ 9223372036854775807 := by
  have hu := Try.underlying24
  simp only [Value.okWide, hu] at hval
  obtain ⟨cs, rfl, hsz, ts, hts, _, hcell⟩ := hval
  rw [cells_req] at hsz
  rw [types_req] at hts
  cases hts
  obtain ⟨c0, c1, c2, c3, c4, c5, rfl⟩ : ∃ c0 c1 c2 c3 c4 c5, cs = #[c0, c1, c2, c3, c4, c5] := by
    match cs, hsz with
    | ⟨[a, b, c, d, e, f]⟩, _ => exact ⟨a, b, c, d, e, f, rfl⟩
  obtain ⟨fuel, hf⟩ := hd
  obtain ⟨m, hm⟩ := trod_fields hu hf
  clear hf
  have n3 : Try.prog.cellsOf 3 = 1 := by kernel_rfl
  have n9 : Try.prog.cellsOf 9 = 1 := by kernel_rfl
  have n22 : Try.prog.cellsOf 22 = 1 := by kernel_rfl
  obtain ⟨y0, h0⟩ := hm _ (.head _)
  obtain ⟨y1, h1⟩ := hm _ (.tail _ (.head _))
  obtain ⟨y2, h2⟩ := hm _ (.tail _ (.tail _ (.head _)))
  obtain ⟨y3, h3⟩ := hm _ (.tail _ (.tail _ (.tail _ (.head _))))
  obtain ⟨y4, h4⟩ := hm _ (.tail _ (.tail _ (.tail _ (.tail _ (.head _)))))
  obtain ⟨y5, h5⟩ := hm _ (.tail _ (.tail _ (.tail _ (.tail _ (.tail _ (.head _))))))
  clear hm
  simp only [n3] at h0 h5
  simp only [n22] at h1
  simp only [n9] at h2 h3 h4
  obtain ⟨u0, b0, k, rfl, _⟩ := one_cell (W := W) kinds_int (show DataW.trod enc Try.prog W 0 (fun _ => true) true m 3 [c0] = some y0 from h0)
  obtain ⟨u2, b2, s2, rfl, _⟩ := one_cell (W := W) kinds_str (show DataW.trod enc Try.prog W 0 (fun _ => true) true m 9 [c2] = some y2 from h2)
  obtain ⟨u3, b3, s3, rfl, _⟩ := one_cell (W := W) kinds_str (show DataW.trod enc Try.prog W 0 (fun _ => true) true m 9 [c3] = some y3 from h3)
  obtain ⟨u4, b4, s4, rfl, _⟩ := one_cell (W := W) kinds_str (show DataW.trod enc Try.prog W 0 (fun _ => true) true m 9 [c4] = some y4 from h4)
  obtain ⟨u5, b5, ep, rfl, hep⟩ := one_cell (W := W) kinds_int (show DataW.trod enc Try.prog W 0 (fun _ => true) true m 3 [c5] = some y5 from h5)
  have hval1 : Value.okWide Try.prog W .any base 22 c1 := by
    obtain ⟨u, hu1, hu2⟩ := hcell 1 c1 rfl
    have : u = 22 := by simpa using hu1.symm
    subst this
    simp only [Value.okWide, Try.underlying22]
    exact hu2
  have hd1 : DataW.Trod enc Try.prog W 0 (fun _ => true) true 22 c1 y1.1 y1.2 := by
    obtain ⟨a0, len0, cap0, rfl⟩ := WideShapes.okWide_slice Try.underlying22 hval1
    exact ⟨m, h1⟩
  obtain ⟨ev, rows, hv1, hs1, hr1⟩ := arg_slice (e := 68) Try.underlying22 kinds_ent cells_ent (by decide) hval1 hd1
  obtain ⟨l, rfl⟩ := ents_of_rows hr1
  have hx : ep ≤ 9223372036854775807 := by
    have : IntKind.i64.min ≤ ep ∧ ep ≤ IntKind.i64.max := by simpa [Lit.wf] using hep
    have e : IntKind.i64.max = 9223372036854775807 := by decide
    omega
  refine ⟨⟨k, l, s2, s3, s4, ep⟩, ev, ?_, hs1, hx⟩
  have o : ev.one = true := by
    obtain ⟨_, ⟨rfl, _⟩ | ⟨o, off, cap, rfl, _⟩⟩ := hs1 <;> rfl
  refine ⟨?_, _, rfl, ⟨_, _, rfl, (baseAv_ok b0).2, _, _, rfl, hv1, _, _, rfl, (baseAv_ok b2).2, _, _, rfl, (baseAv_ok b3).2, _, _, rfl, (baseAv_ok b4).2, _, _, rfl, (baseAv_ok b5).2, rfl⟩⟩
  intro x hx
  simp only [Rq.row, List.mem_cons, List.not_mem_nil, or_false] at hx
  rcases hx with rfl | rfl | rfl | rfl | rfl | rfl
  · rfl
  · exact o
  · rfl
  · rfl
  · rfl
  · rfl
end

theorem Try.own : ownKnob Try.prog.godebug = none := by kernel_rfl
theorem Try.laidOut : laidOutB Try.prog = true := by kernel_rfl

set_option maxRecDepth 100000 in
theorem f_lifted (os : Os) (started : os.Started) (H : Type) (enc : TypeId × Value → H) :
    ReturnsInHanded {} Try.checked os 3 .any (Rows.wireAsksSpec.pre6 enc Try.prog Try.f3 Rows.wireAsksRow.domain false) (Rows.wireAsksSpec.post enc Try.prog Try.f3 false true false false) := by
  refine returnsInHanded_of_change (C := Try.checked) Try.own started (by kernel_rfl) Try.func3
    (ChangeSpec.witness6 (enc := enc) (C := Try.checked) false ⟨#[], #[.agg #[.int .i64 0, .slice none 0 0, .string ⟨#[]⟩, .string ⟨#[]⟩, .string ⟨#[]⟩, .int .i64 0]], []⟩ 8 (by kernel_rfl) (by kernel_rfl) (by kernel_rfl) (by kernel_rfl)) ?_
  intro W base args ds gs before hval0 hW hcnd _
  have hval : ∀ (j : Nat) t v, Try.f3.params[j]? = some t → args[j]? = some v → Value.okWide Try.prog W .any base t v := hval0
  have hW' := hW
  obtain ⟨p, q, hA0, hV, rfl, hfz, hnd⟩ := hW
  have hA : DataW.TrodAll enc Try.prog W 0 (fun _ => true) true Try.f3.params.toList args.toList ds p := hA0
  rw [Try.params3] at hA hval
  obtain ⟨v0, d0, rfl, rfl, h0⟩ := trodAll_one hA
  obtain ⟨rfl, rfl⟩ := trodVars_none hV
  obtain ⟨r, ev, hv0, hs, hx⟩ := arg_req (hval 0 24 v0 rfl rfl) h0
  refine (entry_true table_ok (show VRL 0 plc0 [.agg (r.row ev)] (#[v0] : Array Value).toList from ⟨_, _, rfl, hv0, rfl⟩) (f3_ok hs hx rfl)).mono fun e W' ⟨he, hb⟩ => ?_
  subst he
  have hlt : ∀ x ∈ p, x.block < W.heap.size := fun x hx => by simpa using hW'.lt x (by simp [hx])
  exact ⟨_, rfl, _, _, _, [], _, [], hW', trodAll_mk1 (shut_bool (by kernel_rfl) true),
    trodAll_mk1 (Below.trod Try.laidOut (by kernel_rfl) (of_decide_eq_true (by kernel_rfl)) h0 hb hlt), rfl, hb.frame _, fun h => by cases h⟩

theorem f_holds : Rows.WireAsksSaid :=
  OpenClaim.holds_of_wide 3 Try.f3 rfl rfl rfl rfl rfl rfl rfl ⟨rfl, rfl, rfl, rfl, rfl⟩ rfl rfl rfl rfl rfl (by kernel_rfl) Try.func3 (by kernel_rfl)
    (of_decide_eq_true (by kernel_rfl)) (by unfold Func.isWrapper; first | (rw [if_pos (by decide +kernel)]; kernel_rfl) | (rw [if_neg (by decide +kernel)]; exact ⟨rfl, rfl⟩))
    (fun os started H enc _ => f_lifted os started H enc)

end Go.Proofs.Ytdkgdkifeedcnaa
