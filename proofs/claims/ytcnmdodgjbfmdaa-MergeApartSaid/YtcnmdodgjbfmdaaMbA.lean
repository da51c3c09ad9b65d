/- Lists of entries among the arguments, whose keys are no longer than the form's reach. -/
import Derived.Test.YtcnmdodgjbfmdaaMaA
import Derived.Test.YtcnmdodgjbfmdaaAmK
namespace Go.Am
open Go Go.Proofs

def fieldsOf (d : Option TypeDesc) : Option (List (Nat × TypeId)) := match d with
  | some (.struct fs) => some (fs.toList.map fun f => (f.offset, f.type))
  | _ => none
theorem under_ent : fieldsOf (Try.prog.underlying 29) = some [(0, 9), (1, 9), (2, 4), (3, 3)] := by kernel_rfl
theorem under_str : Try.prog.underlying 9 = some .string := by kernel_rfl
theorem cells_str : Try.prog.cellsOf 9 = 1 := by kernel_rfl

section
variable {X : Type} {enc : TypeId × Value → X} {W : World} {base : Nat}

/-- A key's length is among the weights of its entry. -/
theorem key_weight {fuel : Nat} {cs : List Value} {x : DataW X × List MemPlace} (h : DataW.trod enc Try.prog W 0 (fun _ => true) true fuel 29 cs = some x) : ∀ s : ByteArray, cs[0]? = some (.string s) → s.size ∈ DataW.weights Try.prog 29 x.1 := by
  intro s hs
  have hu := under_ent
  unfold fieldsOf at hu
  split at hu
  · rename_i fs hd
    obtain ⟨xs, n, _, hx, hl, hxl, hg⟩ := DataW.trod_struct hd h
    have hu : fs.toList.map (fun f => (f.offset, f.type)) = [(0, 9), (1, 9), (2, 4), (3, 3)] := by injection hu
    have hsz : fs.size = 4 := by have := congrArg List.length hu; simpa using this
    have h0 : fs[0]? = some fs[0] := Array.getElem?_eq_getElem (by omega)
    have hf : fs[0].offset = 0 ∧ fs[0].type = 9 := by
      have := congrArg (fun l => l[0]?) hu
      simp only [List.getElem?_map, Array.getElem?_toList, h0, Option.map_some, List.getElem?_cons_zero] at this
      injection this with this
      injection this with a b
      exact ⟨a, b⟩
    have hg0 := hg 0 fs[0] h0
    rw [hf.1, hf.2, cells_str, List.drop_zero] at hg0
    obtain ⟨y, ys, rfl⟩ : ∃ y ys, xs = y :: ys := by
      cases xs with
      | nil => simp at hxl; omega
      | cons y ys => exact ⟨y, ys, rfl⟩
    rw [List.getElem?_cons_zero] at hg0
    obtain ⟨s', e1, e2, _⟩ := DataW.trod_string under_str hg0
    have hs' : s' = s := by
      cases cs with
      | nil => simp at hs
      | cons c cs =>
        simp at hs e1
        subst hs
        injection e1 with e1
        exact e1.symm
    subst hs'
    rw [hx]
    simp only [DataW.weights, hd]
    have hty : fs.toList.map (·.type) = [9, 9, 4, 3] := by
      have := congrArg (List.map Prod.snd) hu
      rw [List.map_map] at this
      exact this
    rw [hty, List.map_cons, e2]
    simp only [DataW.weightsEach, DataW.weights]
    refine List.mem_append_left _ ?_
    simp
  · cases hu

theorem weightsAll_mem {e : TypeId} {m : Nat} : ∀ {ds : List (DataW X)} {d : DataW X}, d ∈ ds → m ∈ DataW.weights Try.prog e d → m ∈ DataW.weightsAll Try.prog e ds
  | [], _, h, _ => by cases h
  | x :: r, d, h, hm => by
    simp only [DataW.weightsAll]
    rcases List.mem_cons.1 h with rfl | h
    · exact List.mem_append_left _ hm
    · exact List.mem_append_right _ (weightsAll_mem h hm)

/-- A list of entries among the arguments, of a weight. -/
theorem arg_listK {v : Value} {d : DataW X} {p : List MemPlace} {N : Nat} (hval : Value.okWide Try.prog W .any base 25 v) (hd : DataW.Trod enc Try.prog W 0 (fun _ => true) true 25 v d p) (hw : ∀ m, m ∈ DataW.weights Try.prog 25 d → m ≤ N) :
    ∃ (av : AV) (l : List E), VR 0 plc0 av v ∧ Sl (baseOf W) [] 4 av (l.map E.row) ∧ ∀ e, e ∈ l → e.key.length ≤ N := by
  obtain ⟨av, rows, h1, h2, h3, h4⟩ := arg_sliceP (Pk := fun cs => ∀ s : ByteArray, cs[0]? = some (.string s) → s.size ≤ N) under_list kinds_ent cells_ent (by decide) hval hd
    (fun fuel elems rest cs y hdd hy ht s hs => hw _ (by
      rw [hdd]
      simp only [DataW.weights, under_list]
      refine List.mem_cons_of_mem _ (List.mem_append_left _ (weightsAll_mem (List.mem_map.2 ⟨y, hy, rfl⟩) (key_weight ht s hs)))))
  obtain ⟨l, rfl⟩ := ents_of_rows h3
  refine ⟨av, l, h1, h2, fun e he => ?_⟩
  obtain ⟨cs, g1, g2⟩ := h4 e.row (List.mem_map.2 ⟨e, he, rfl⟩)
  obtain ⟨x, k1, k2⟩ := g2 0 (.str e.key) rfl
  cases x <;> simp only [baseAv, Option.some.injEq, reduceCtorEq] at k2
  rename_i s
  injection k2 with k2
  have := g1 s k1
  rw [← k2]
  simpa using this
end
end Go.Am
