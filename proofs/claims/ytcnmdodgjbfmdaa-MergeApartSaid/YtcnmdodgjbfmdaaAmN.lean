/- The law's arguments, met: slices of slices of rows of flat cells. All inner slices are of one width. -/
import Derived.Test.YtcnmdodgjbfmdaaAmE
namespace Go.Am
open Go Go.RowKit

/-- A cell of the ground, which may be a slice of rows of the width es; one without room is told at the block b0. -/
def bavN (es b0 : Nat) : Value → Option AV
  | .slice none len cap => if len = 0 ∧ cap = 0 then some .nils else none
  | .slice (some a) len cap => if cap = 0 then (if len = 0 then some (.slice (.base b0 0) 0 0 es (some 0)) else none) else if len ≤ cap ∧ a.spot = none then some (.slice (.base a.block a.off) 0 len es (some cap)) else none
  | x => baseAv x
theorem bavN_ok {es b0 : Nat} {x : Value} {v : AV} (h : bavN es b0 x = some v) : v.one = true ∧ VR 0 plc0 v x := by
  unfold bavN at h
  split at h
  · rename_i len cap
    split at h
    · rename_i hz
      obtain ⟨rfl, rfl⟩ := hz
      cases h; exact ⟨rfl, rfl⟩
    · cases h
  · rename_i a len cap
    split at h
    · rename_i hz
      subst hz
      split at h
      · rename_i hl
        subst hl
        cases h
        exact ⟨rfl, trivial, a, 0, rfl, Nat.le_refl _, rfl, fun h => absurd h (by omega)⟩
      · cases h
    · split at h
      · rename_i hl
        cases h
        refine ⟨rfl, trivial, a, cap, rfl, hl.1, rfl, fun _ => ?_⟩
        show a = ⟨a.block, a.off + 0, none⟩
        rw [← hl.2]; rfl
      · cases h
  · exact baseAv_ok h
theorem bavN_flat {es b0 : Nat} {x : Value} {v : AV} (h : baseAv x = some v) : bavN es b0 x = some v := by
  cases x <;> first | exact h | (simp [baseAv] at h)

section
variable (es b0 : Nat)
def cellsN : List Value → List AV
  | [] => []
  | x :: r => match bavN es b0 x with
    | some v => v :: cellsN r
    | none => []
def baseN (W : World) : Base := fun b s => match W.heap[b]? with
  | some (.cells c _ _) => if s ≤ c.size then some (cellsN es b0 (c.toList.drop s)) else none
  | _ => none
end

section
variable {es b0 : Nat}
theorem cellsN_get : ∀ {l : List Value} {j : Nat} {u : AV}, (cellsN es b0 l)[j]? = some u → ∃ x, l[j]? = some x ∧ bavN es b0 x = some u
  | [], j, u, h => by simp [cellsN] at h
  | x :: r, j, u, h => by
    unfold cellsN at h
    split at h
    · rename_i v hv
      cases j with
      | zero => simp at h; subst h; exact ⟨x, rfl, hv⟩
      | succ j => simp at h; obtain ⟨y, h1, h2⟩ := cellsN_get h; exact ⟨y, by simpa using h1, h2⟩
    · simp at h
theorem cellsN_length : ∀ (l : List Value), (cellsN es b0 l).length ≤ l.length
  | [] => by simp [cellsN]
  | x :: r => by
    unfold cellsN
    split
    · simpa using cellsN_length r
    · simp
theorem cellsN_take : ∀ {l : List Value} {vs : List AV}, (∀ (j : Nat) v, vs[j]? = some v → ∃ x, l[j]? = some x ∧ bavN es b0 x = some v) → (cellsN es b0 l).take vs.length = vs
  | l, [], _ => by simp
  | [], v :: vs, h => by obtain ⟨x, hx, _⟩ := h 0 v rfl; simp at hx
  | x :: r, v :: vs, h => by
    obtain ⟨y, hy, hv⟩ := h 0 v rfl
    simp at hy; subst hy
    simp only [cellsN, hv, List.length_cons, List.take_succ_cons]
    rw [cellsN_take fun j w hw => (by obtain ⟨z, h1, h2⟩ := h (j + 1) w (by simpa using hw); exact ⟨z, by simpa using h1, h2⟩)]

theorem baseN_ok (W : World) : BaseOk (baseN es b0 W) (bwOf W) := by
  refine ⟨fun b s cs h => ?_⟩
  unfold baseN at h
  split at h
  · rename_i c e f hc
    split at h
    · rename_i hs
      cases h
      refine ⟨fun v hv => ?_, (Array.getElem?_eq_some_iff.1 hc).1, c, e, f, hc, ?_, fun j u hu => ?_⟩
      · obtain ⟨j, hj⟩ := List.mem_iff_getElem?.1 hv
        obtain ⟨x, _, h2⟩ := cellsN_get hj
        exact (bavN_ok h2).1
      · have := cellsN_length (es := es) (b0 := b0) (c.toList.drop s)
        simp at this
        omega
      · obtain ⟨x, h1, h2⟩ := cellsN_get hu
        exact ⟨x, by simpa using h1, (bavN_ok h2).2⟩
    · cases h
  · cases h

theorem entryN {P : Program} {F : FuncId → Option AFunc} (hF : TableOk P F) {W : World} {f : FuncId} {as : List AV} {args : Array Value} (hv : VRL 0 plc0 as args.toList) (h : ACall (baseN es b0 W) F f as [] fun v _ => v = .bool true) :
    Calls P f args W fun e W' => e = .returned (.bool true) ∧ Below W.heap.size W W' := by
  have R : Rel (bwOf W) plc0 [] W := ⟨⟨rfl, rfl, rfl, Nat.le_refl _, fun _ _ => rfl⟩, fun k o h => by simp at h, fun k l o o' h => by simp at h⟩
  obtain ⟨_, hs⟩ := call_ok (baseN_ok W) hF f as [] _ h
  refine (hs plc0 W args R hv).mono fun e w' hr => ?_
  obtain ⟨v, H', m', x, h1, h2, _, h4, h5⟩ := hr
  refine ⟨?_, ⟨h4.below.os, h4.below.tape, h4.below.output, h4.below.size, h4.below.block⟩⟩
  subst h1
  simp only [VR] at h5
  rw [h2, h5]

theorem ground_rowsN {W : World} {b s : Nat} {c : Array Value} {e : TypeId} {fr : Nat × Nat} {k : Nat} {rows : List (List AV)} (hb : W.heap[b]? = some (.cells c e fr)) (hs : s ≤ c.size) (hl : ∀ r, r ∈ rows → r.length = k)
    (h : ∀ (i : Nat) row, rows[i]? = some row → ∀ (j : Nat) u, row[j]? = some u → ∃ x, c[s + (i * k + j)]? = some x ∧ bavN es b0 x = some u) {cap : Option Nat} : Sl (baseN es b0 W) [] k (.slice (.base b s) 0 rows.length k cap) rows := by
  refine ⟨hl, .inr ⟨_, _, _, rfl, ?_⟩⟩
  have htake : (cellsN es b0 (c.toList.drop s)).take rows.flatten.length = rows.flatten := cellsN_take fun j u hu => by
    obtain ⟨i, row, h1, h2, h3⟩ := flatten_get hl hu
    obtain ⟨x, hx, hv⟩ := h i row h1 _ u h3
    refine ⟨x, ?_, hv⟩
    rw [List.getElem?_drop, Array.getElem?_toList, ← hx]
    congr 1; omega
  have hlen : rows.flatten.length ≤ (cellsN es b0 (c.toList.drop s)).length := by
    have := congrArg List.length htake
    rw [List.length_take] at this; omega
  refine cellsAt_iff'.2 ⟨cellsN es b0 (c.toList.drop s), ?_, ?_, ?_⟩
  · show baseN es b0 W b s = _
    unfold baseN; rw [hb]; simp only [if_pos hs]
  · rw [flatten_len hl] at hlen; omega
  · rw [List.drop_zero, ← flatten_len hl]; exact htake.symm
end

theorem add_add (a : Addr) (i j : Nat) : (a.add i).add j = a.add (i + j) := by
  unfold Addr.add
  by_cases hi : i = 0 <;> by_cases hj : j = 0 <;> simp [hi, hj, Nat.add_assoc]
/-- Where a cell is met, there is a block. -/
theorem cell_block {W : World} {a : Addr} {i : Nat} {x : Value} (h : W.cell? (a.add i) = some x) (hs : a.spot = none) : ∃ c e f, W.heap[a.block]? = some (.cells c e f) ∧ c[a.off + i]? = some x := by
  have hadr : (a.add i).block = a.block ∧ (a.add i).off = a.off + i ∧ (a.add i).spot = none := by
    unfold Addr.add; split
    · rename_i h; subst h; exact ⟨rfl, rfl, hs⟩
    · exact ⟨rfl, rfl, rfl⟩
  unfold World.cell? at h
  rw [hadr.1] at h
  split at h
  · rename_i c e f hc
    simp only [hadr.2.2, hadr.2.1, Option.isSome_none, Bool.false_eq_true, if_false] at h
    exact ⟨c, e, f, hc, h⟩
  · cases h
theorem cell_spot {W : World} {a : Addr} {x : Value} (h : W.cell? (a.add 0) = some x) : a.spot = none := by
  have e : a.add 0 = a := by unfold Addr.add; simp
  rw [e] at h
  unfold World.cell? at h
  split at h
  · split at h
    · cases h
    · rename_i hs; simpa using hs
  · cases h

section
variable {X : Type} {enc : TypeId × Value → X} {P : Program} {W : World} {base : Nat}

/-- A slice of flat rows in a cell. -/
theorem inner_slice {t e : TypeId} {nk : Nat} {tys : List Ty} {b0 : Nat} {cs : List Value} {fuel : Nat} {x : DataW X × List MemPlace} (ht : P.underlying t = some (.slice e)) (hk : kinds P nk e = some tys) (hce : P.cellsOf e = tys.length) (hpos : 0 < tys.length)
    (hb0 : ∃ c e f, W.heap[b0]? = some (.cells c e f)) (hd : DataW.trod enc P W 0 (fun _ => true) true fuel t cs = some x) :
    ∃ y u rows, cs = [y] ∧ bavN tys.length b0 y = some u ∧ Sl (baseN tys.length b0 W) [] tys.length u rows ∧ ∀ r, r ∈ rows → rowIs tys r := by
  rcases DataW.trod_slice ht hd with ⟨rfl, _⟩ | ⟨a, len, cap, elems, rest, n, _, rfl, _, _, hl, hm, hlen, hel, hsp, _⟩
  · exact ⟨_, .nils, [], rfl, rfl, ⟨fun r hr => by simp at hr, .inl ⟨rfl, rfl⟩⟩, fun r hr => by simp at hr⟩
  · by_cases hcap : cap = 0
    · have hl0 : len = 0 := by omega
      subst hcap; subst hl0
      obtain ⟨c, e', f, hc⟩ := hb0
      exact ⟨_, _, [], rfl, rfl, ground_rowsN (rows := []) hc (Nat.zero_le _) (fun r hr => by simp at hr) (fun i row h => by simp at h), fun r hr => by simp at hr⟩
    · obtain ⟨rows, hr1, hr2, hr3⟩ := choose_rows (tys := tys) len (fun i cs => W.cells? 0 (a.add (i * P.cellsOf e)) (P.cellsOf e) = some cs) fun i hi => by
        have := hel i hi
        rw [List.getElem?_eq_getElem (by omega)] at this
        obtain ⟨cs, h1, h2⟩ := Option.bind_eq_some_iff.1 this
        exact ⟨cs, h1, kinds_ok _ _ _ _ _ _ hk h2⟩
      have hfirst : ∃ cs, W.cells? 0 (a.add (0 * P.cellsOf e)) (P.cellsOf e) = some cs := by
        rcases Nat.eq_zero_or_pos len with h0 | h0
        · obtain ⟨h1, h2⟩ := hsp rfl
          have := h2 0 (by omega)
          rw [List.getElem?_eq_getElem (by omega)] at this
          obtain ⟨cs, h3, _⟩ := Option.bind_eq_some_iff.1 this
          exact ⟨cs, by rw [← h3, h0]⟩
        · have := hel 0 h0
          rw [List.getElem?_eq_getElem (by omega)] at this
          obtain ⟨cs, h3, _⟩ := Option.bind_eq_some_iff.1 this
          exact ⟨cs, h3⟩
      obtain ⟨cs, hcs⟩ := hfirst
      obtain ⟨_, hcl, hcc⟩ := World.cells?_some hcs
      have h0 := hcc 0 (by omega)
      rw [add_add, List.getElem?_eq_getElem (by omega)] at h0
      have h0' : W.cell? (a.add 0) = some cs[0] := by simpa using h0
      have hspot := cell_spot h0'
      obtain ⟨c, el, fr, hheap, hc0⟩ := cell_block h0' hspot
      have hall : ∀ (i : Nat) row, rows[i]? = some row → ∀ (j : Nat) u, row[j]? = some u → ∃ x, c[a.off + (i * tys.length + j)]? = some x ∧ bavN tys.length b0 x = some u := fun i row hi j u hu => by
        obtain ⟨cs, h1, h2⟩ := hr3 i row hi
        obtain ⟨x, hx, hv⟩ := h2 j u hu
        obtain ⟨_, hcl, hcc⟩ := World.cells?_some h1
        have hj : j < P.cellsOf e := by
          rcases Nat.lt_or_ge j cs.length with h | h
          · omega
          · rw [List.getElem?_eq_none h] at hx; cases hx
        have := hcc j hj
        rw [add_add, hx] at this
        obtain ⟨c', e', f', g1, g2⟩ := cell_block this hspot
        rw [hheap] at g1; cases g1
        exact ⟨x, by rw [hce] at g2; exact g2, bavN_flat hv⟩
      have hoff : a.off ≤ c.size := by
        have := (Array.getElem?_eq_some_iff.1 hc0).1
        omega
      refine ⟨_, .slice (.base a.block a.off) 0 rows.length tys.length (some cap), rows, rfl, ?_, ground_rowsN hheap hoff (fun r hr => (hr2 r hr).1) hall, hr2⟩
      simp only [bavN, if_neg hcap]
      rw [if_pos ⟨hl, hspot⟩, hr1]

theorem choose_ts {α : Type} : ∀ (n : Nat) (f : Nat → α → Prop), (∀ i, i < n → ∃ t, f i t) → ∃ ts : List α, ts.length = n ∧ ∀ (i : Nat) t, ts[i]? = some t → f i t
  | 0, _, _ => ⟨[], rfl, fun i t h => by simp at h⟩
  | n + 1, f, h => by
    obtain ⟨ts, h1, h2⟩ := choose_ts n f fun i hi => h i (by omega)
    obtain ⟨t, ht⟩ := h n (by omega)
    refine ⟨ts ++ [t], by simp [h1], fun i t' hi => ?_⟩
    rcases Nat.lt_or_ge i ts.length with hlt | hge
    · rw [List.getElem?_append_left hlt] at hi; exact h2 i t' hi
    · rw [List.getElem?_append_right hge] at hi
      have : i = n := by
        rcases Nat.eq_or_lt_of_le hge with h' | h'
        · omega
        · rw [List.getElem?_eq_none (by simp; omega)] at hi; cases hi
      subst this
      rw [h1, Nat.sub_self] at hi
      simp at hi; subst hi
      exact ht

/-- A slice of slices among the arguments. -/
theorem arg_nested {t e1 e : TypeId} {nk : Nat} {tys : List Ty} {v : Value} {d : DataW X} {p : List MemPlace} (ht : P.underlying t = some (.slice e1)) (ht1 : P.underlying e1 = some (.slice e)) (hc1 : P.cellsOf e1 = 1) (hk : kinds P nk e = some tys) (hce : P.cellsOf e = tys.length) (hpos : 0 < tys.length)
    (hval : Value.okWide P W .any base t v) (hd : DataW.Trod enc P W 0 (fun _ => true) true t v d p) :
    ∃ (b0 : Nat) (av : AV) (ts : List (AV × List (List AV))), VR 0 plc0 av v ∧ Sl (baseN tys.length b0 W) [] 1 av (ts.map fun t => [t.1]) ∧ ∀ t, t ∈ ts → Sl (baseN tys.length b0 W) [] tys.length t.1 t.2 ∧ ∀ r, r ∈ t.2 → rowIs tys r := by
  obtain ⟨a0, len0, cap0, rfl⟩ := WideShapes.okWide_slice ht hval
  obtain ⟨fuel, hf⟩ := hd
  have hf' : DataW.trod enc P W 0 (fun _ => true) true fuel t [.slice a0 len0 cap0] = some (d, p) := hf
  rcases DataW.trod_slice ht hf' with ⟨h0, _⟩ | ⟨a, len, cap, elems, rest, n, _, h0, _, _, hl, hm, hlen, hel, hsp, _⟩
  · simp only [List.cons.injEq, Value.slice.injEq, and_true] at h0
    obtain ⟨rfl, rfl, rfl⟩ := h0
    exact ⟨0, .nils, [], rfl, ⟨fun r hr => by simp at hr, .inl ⟨rfl, rfl⟩⟩, fun r hr => by simp at hr⟩
  · simp only [List.cons.injEq, Value.slice.injEq, and_true] at h0
    obtain ⟨rfl, rfl, rfl⟩ := h0
    have hhas : a.spot = none ∧ ∃ row cells, W.shape? a.block = some (row, cells) := by
      have := hval
      simp only [Value.okWide, ht, Cell.okWide, Cell.ok] at this
      obtain ⟨_, _, h⟩ := this
      exact ⟨h.2.1, let ⟨r, c, h1, _⟩ := h.2.2; ⟨r, c, h1⟩⟩
    obtain ⟨hspot, rw0, cl0, hshape⟩ := hhas
    obtain ⟨c, el, fr, hheap⟩ : ∃ c el fr, W.heap[a.block]? = some (.cells c el fr) := by
      unfold World.shape? at hshape
      split at hshape
      · rename_i c el fr hc; exact ⟨c, el, fr, hc⟩
      · cases hshape
    obtain ⟨ts, hts1, hts2⟩ := choose_ts (α := AV × List (List AV)) len0 (fun i t => (∃ y, W.cell? (a.add i) = some y ∧ bavN tys.length a.block y = some t.1) ∧ Sl (baseN tys.length a.block W) [] tys.length t.1 t.2 ∧ ∀ r, r ∈ t.2 → rowIs tys r) fun i hi => by
      have := hel i hi
      rw [List.getElem?_eq_getElem (by omega)] at this
      obtain ⟨cs, h1, h2⟩ := Option.bind_eq_some_iff.1 this
      obtain ⟨y, u, rows, rfl, g1, g2, g3⟩ := inner_slice ht1 hk hce hpos ⟨c, el, fr, hheap⟩ h2
      obtain ⟨_, _, hcc⟩ := World.cells?_some h1
      have h3 := hcc 0 (by omega)
      rw [add_add, hc1] at h3
      exact ⟨(u, rows), ⟨y, by simpa using h3, g1⟩, g2, g3⟩
    have hall : ∀ (i : Nat) row, (ts.map fun t => [t.1])[i]? = some row → ∀ (j : Nat) u, row[j]? = some u → ∃ x, c[a.off + (i * 1 + j)]? = some x ∧ bavN tys.length a.block x = some u := fun i row hi j u hu => by
      rw [List.getElem?_map, Option.map_eq_some_iff] at hi
      obtain ⟨t, hti, rfl⟩ := hi
      cases j with
      | succ j => simp at hu
      | zero =>
        simp at hu; subst hu
        obtain ⟨⟨y, hy, hb⟩, _⟩ := hts2 i t hti
        obtain ⟨c', e', f', g1, g2⟩ := cell_block hy hspot
        rw [hheap] at g1; cases g1
        exact ⟨y, by simpa using g2, hb⟩
    have hone : ∀ r, r ∈ (ts.map fun t : AV × List (List AV) => [t.1]) → r.length = 1 := fun r hr => by
      obtain ⟨t, _, rfl⟩ := List.mem_map.1 hr; rfl
    have hel' : ∀ t, t ∈ ts → Sl (baseN tys.length a.block W) [] tys.length t.1 t.2 ∧ ∀ r, r ∈ t.2 → rowIs tys r := fun t ht' => by
      obtain ⟨i, hi⟩ := List.mem_iff_getElem?.1 ht'
      exact (hts2 i t hi).2
    by_cases hz : len0 = 0
    · have : ts = [] := List.length_eq_zero_iff.1 (by omega)
      subst this
      subst hz
      by_cases hcap : cap0 = 0
      · subst hcap
        refine ⟨a.block, .slice (.base a.block 0) 0 0 1 (some 0), [], ⟨trivial, a, 0, rfl, Nat.le_refl _, rfl, fun h => absurd h (by omega)⟩, ground_rowsN (rows := []) hheap (Nat.zero_le _) (fun r hr => by simp at hr) (fun i row h => by simp at h), fun t ht => by simp at ht⟩
      · -- room, but no entries: the room's first cell stands there
        have hoff : a.off ≤ c.size := by
          obtain ⟨h1, h2⟩ := hsp rfl
          have := h2 0 (by omega)
          rw [List.getElem?_eq_getElem (by omega)] at this
          obtain ⟨cs, h3, _⟩ := Option.bind_eq_some_iff.1 this
          obtain ⟨_, hcl, hcc⟩ := World.cells?_some h3
          have h4 := hcc 0 (by omega)
          rw [add_add, List.getElem?_eq_getElem (by omega)] at h4
          obtain ⟨c', e', f', g1, g2⟩ := cell_block h4 hspot
          rw [hheap] at g1; cases g1
          have := (Array.getElem?_eq_some_iff.1 g2).1
          omega
        refine ⟨a.block, .slice (.base a.block a.off) 0 0 1 (some cap0), [], ⟨trivial, a, cap0, rfl, by omega, rfl, fun _ => ?_⟩, ground_rowsN (rows := []) hheap hoff (fun r hr => by simp at hr) (fun i row h => by simp at h), fun t ht => by simp at ht⟩
        show a = ⟨a.block, a.off + 0, none⟩
        rw [← hspot]; rfl
    · have hoff : a.off ≤ c.size := by
        have ht0 : ∃ t, ts[0]? = some t := ⟨ts[0], List.getElem?_eq_getElem (by omega)⟩
        obtain ⟨t, ht0⟩ := ht0
        obtain ⟨⟨y, hy, _⟩, _⟩ := hts2 0 t ht0
        obtain ⟨c', e', f', g1, g2⟩ := cell_block hy hspot
        rw [hheap] at g1; cases g1
        have := (Array.getElem?_eq_some_iff.1 g2).1
        omega
      have hg := ground_rowsN (es := tys.length) (b0 := a.block) hheap hoff hone hall (cap := some cap0)
      rw [List.length_map] at hg
      refine ⟨a.block, .slice (.base a.block a.off) 0 ts.length 1 (some cap0), ts, ⟨trivial, a, cap0, by rw [hts1], by rw [hts1]; exact hl, rfl, fun _ => ?_⟩, hg, hel'⟩
      show a = ⟨a.block, a.off + 0, none⟩
      rw [← hspot]; rfl
end

end Go.Am
