/- The law's arguments, met: a slice of flat rows, of whose cells something more is known. -/
import Derived.Test.YtcnmdodgjbfmdaaAmE
namespace Go.Am
open Go Go.RowKit

section
variable {X : Type} {enc : TypeId × Value → X} {P : Program} {W : World} {base : Nat}

/-- A slice among the arguments. -/
theorem arg_sliceP {Pk : List Value → Prop} {t e : TypeId} {nk : Nat} {tys : List Ty} {v : Value} {d : DataW X} {p : List MemPlace} (ht : P.underlying t = some (.slice e)) (hk : kinds P nk e = some tys) (hce : P.cellsOf e = tys.length) (hpos : 0 < tys.length) (hval : Value.okWide P W .any base t v)
    (hd : DataW.Trod enc P W 0 (fun _ => true) true t v d p)
    (hP : ∀ (fuel : Nat) (elems rest : List (DataW X × List MemPlace)) (cs : List Value) (y : DataW X × List MemPlace), d = .slice (elems.map (·.1)) (rest.map (·.1)) → y ∈ elems → DataW.trod enc P W 0 (fun _ => true) true fuel e cs = some y → Pk cs) :
    ∃ av rows, VR 0 plc0 av v ∧ Sl (baseOf W) [] tys.length av rows ∧ (∀ r, r ∈ rows → rowIs tys r) ∧ ∀ row, row ∈ rows → ∃ cs, Pk cs ∧ ∀ (j : Nat) u, row[j]? = some u → ∃ x, cs[j]? = some x ∧ baseAv x = some u := by
  obtain ⟨a0, len0, cap0, rfl⟩ := WideShapes.okWide_slice ht hval
  obtain ⟨fuel, hf⟩ := hd
  have hf' : DataW.trod enc P W 0 (fun _ => true) true fuel t [.slice a0 len0 cap0] = some (d, p) := hf
  rcases DataW.trod_slice ht hf' with ⟨h0, _⟩ | ⟨a, len, cap, elems, rest, n, _, h0, hdx, _, hl, hm, hlen, hel, hsp, _⟩
  · simp only [List.cons.injEq, Value.slice.injEq, and_true] at h0
    obtain ⟨rfl, rfl, rfl⟩ := h0
    exact ⟨.nils, [], rfl, ⟨fun r hr => by simp at hr, .inl ⟨rfl, rfl⟩⟩, fun r hr => by simp at hr, fun r hr => by simp at hr⟩
  · simp only [List.cons.injEq, Value.slice.injEq, and_true] at h0
    obtain ⟨rfl, rfl, rfl⟩ := h0
    obtain ⟨rows, hr1, hr2, hr3⟩ := choose_rows (tys := tys) len0 (fun i cs => W.cells? 0 (a.add (i * P.cellsOf e)) (P.cellsOf e) = some cs ∧ Pk cs) fun i hi => by
      have := hel i hi
      rw [List.getElem?_eq_getElem (by omega)] at this
      obtain ⟨cs, h1, h2⟩ := Option.bind_eq_some_iff.1 this
      exact ⟨cs, ⟨h1, hP _ elems rest cs _ (by have := congrArg Prod.fst hdx; exact this) (List.getElem_mem (by omega : i < elems.length)) h2⟩, kinds_ok _ _ _ _ _ _ hk h2⟩
    have hhas : a.spot = none ∧ ∃ row cells, W.shape? a.block = some (row, cells) := by
      have := hval
      simp only [Value.okWide, ht, Cell.okWide, Cell.ok] at this
      obtain ⟨_, _, h⟩ := this
      exact ⟨h.2.1, let ⟨r, c, h1, _⟩ := h.2.2; ⟨r, c, h1⟩⟩
    obtain ⟨hspot, rw0, cl0, hshape⟩ := hhas
    obtain ⟨c, el, fr, hheap⟩ : ∃ c el fr, W.heap[a.block]? = some (.cells c el fr) := by
      unfold World.shape? at hshape
      split at hshape
      · rename_i c el fr hc; exact ⟨c, el, fr, hc⟩
      · cases hshape
    have hadr : ∀ i, (a.add i).block = a.block ∧ (a.add i).off = a.off + i ∧ (a.add i).spot = none := fun i => by
      unfold Addr.add; split
      · rename_i h; subst h; exact ⟨rfl, rfl, hspot⟩
      · exact ⟨rfl, rfl, rfl⟩
    have hcell : ∀ i, W.cell? (a.add i) = c[a.off + i]? := fun i => by
      unfold World.cell?
      rw [(hadr i).1, hheap]
      simp only [(hadr i).2.2, (hadr i).2.1, Option.isSome_none, Bool.false_eq_true, if_false]
    have haa : ∀ i j, (a.add i).add j = a.add (i + j) := fun i j => by
      unfold Addr.add
      by_cases hi : i = 0 <;> by_cases hj : j = 0 <;> simp [hi, hj, Nat.add_assoc]
    have hall : ∀ (i : Nat) row, rows[i]? = some row → ∀ (j : Nat) u, row[j]? = some u → ∃ x, c[a.off + (i * tys.length + j)]? = some x ∧ baseAv x = some u := fun i row hi j u hu => by
      obtain ⟨cs, ⟨h1, _⟩, h2⟩ := hr3 i row hi
      obtain ⟨x, hx, hv⟩ := h2 j u hu
      obtain ⟨_, hcl, hcc⟩ := World.cells?_some h1
      have hj : j < P.cellsOf e := by
        rcases Nat.lt_or_ge j cs.length with h | h
        · omega
        · rw [List.getElem?_eq_none h] at hx; cases hx
      have := hcc j hj
      rw [haa, hcell, hx] at this
      exact ⟨x, by rw [← this, hce], hv⟩
    have hpk : ∀ row, row ∈ rows → ∃ cs, Pk cs ∧ ∀ (j : Nat) u, row[j]? = some u → ∃ x, cs[j]? = some x ∧ baseAv x = some u := fun row hr => by
      obtain ⟨i, hi⟩ := List.mem_iff_getElem?.1 hr
      obtain ⟨cs, ⟨_, h1⟩, h2⟩ := hr3 i row hi
      exact ⟨cs, h1, h2⟩
    by_cases hcap : cap0 = 0
    · have hl0 : len0 = 0 := by omega
      subst hcap; subst hl0
      have hre : rows = [] := List.length_eq_zero_iff.1 hr1
      subst hre
      refine ⟨.slice (.base a.block 0) 0 0 tys.length (some 0), [], ?_, ground_rows (rows := []) hheap (Nat.zero_le _) (fun r hr => by simp at hr) (fun i row h => by simp at h), fun r hr => by simp at hr, fun r hr => by simp at hr⟩
      exact ⟨trivial, a, 0, rfl, Nat.le_refl _, rfl, fun h => absurd h (by omega)⟩
    · have hfirst : ∃ cs, W.cells? 0 (a.add (0 * P.cellsOf e)) (P.cellsOf e) = some cs := by
        rcases Nat.eq_zero_or_pos len0 with h0 | h0
        · obtain ⟨h1, h2⟩ := hsp rfl
          have := h2 0 (by omega)
          rw [List.getElem?_eq_getElem (by omega)] at this
          obtain ⟨cs, h3, _⟩ := Option.bind_eq_some_iff.1 this
          exact ⟨cs, by rw [← h3, h0]⟩
        · have := hel 0 h0
          rw [List.getElem?_eq_getElem (by omega)] at this
          obtain ⟨cs, h3, _⟩ := Option.bind_eq_some_iff.1 this
          exact ⟨cs, h3⟩
      obtain ⟨cs, hcs⟩ := hfirst
      obtain ⟨_, hcl, hcc⟩ := World.cells?_some hcs
      have h0 := hcc 0 (by omega)
      rw [haa, hcell, List.getElem?_eq_getElem (by omega)] at h0
      have hoff : a.off ≤ c.size := by
        rcases Nat.lt_or_ge a.off c.size with h | h
        · omega
        · rw [Array.getElem?_eq_none (by omega)] at h0; cases h0
      refine ⟨.slice (.base a.block a.off) 0 rows.length tys.length (some cap0), rows, ?_, ground_rows hheap hoff (fun r hr => (hr2 r hr).1) hall, hr2, hpk⟩
      refine ⟨trivial, a, cap0, by rw [hr1], by rw [hr1]; exact hl, rfl, fun _ => ?_⟩
      show a = ⟨a.block, a.off + 0, none⟩
      rw [← hspot]; rfl
end

end Go.Am
