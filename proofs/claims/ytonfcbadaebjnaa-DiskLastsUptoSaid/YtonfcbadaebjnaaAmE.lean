/- The law's arguments, met: cells of flat types, slices of rows of them. -/
import Derived.Test.YtonfcbadaebjnaaAmS
import Derived.ProofKit
namespace Go.Am
open Go

/-- A cell of a kind. -/
def cellIs : Ty → Value → Prop
  | .int k, x => ∃ n, x = .int k n ∧ (Lit.int k n).wf = true
  | .bool, x => ∃ b, x = .bool b
  | .str, x => ∃ s : ByteArray, x = .string s ∧ s.size ≤ maxLen
  | .other, _ => False

def cellsAre (l : List Ty) (cs : List Value) : Prop := cs.length = l.length ∧ ∀ (i : Nat) t, l[i]? = some t → ∃ y, cs[i]? = some y ∧ cellIs t y

/-- Parts that stand one behind another. -/
def kindsF (P : Program) (g : TypeId → Option (List Ty)) : List (Nat × TypeId) → Nat → Option (List Ty)
  | [], _ => some []
  | (o, e) :: r, off => if o = off then (g e).bind fun l => if l.length = P.cellsOf e then (kindsF P g r (off + l.length)).map (l ++ ·) else none else none

/-- The kinds of a flat type's cells. -/
def kinds (P : Program) : Nat → TypeId → Option (List Ty)
  | 0, _ => none
  | f + 1, t => match P.underlying t with
    | some .bool => some [.bool]
    | some (.int k) => some [.int k]
    | some .string => some [.str]
    | some (.struct fs) => (kindsF P (kinds P f) (fs.toList.map fun f => (f.offset, f.type)) 0).bind fun l => if l.length = P.cellsOf t then some l else none
    | some (.array n e) => (kindsF P (kinds P f) ((List.range n).map fun i => (i * P.cellsOf e, e)) 0).bind fun l => if l.length = P.cellsOf t then some l else none
    | _ => none

theorem mapM_all {α β : Type} {f : α → Option β} : ∀ {l : List α} {xs : List β}, l.mapM f = some xs → ∀ a ∈ l, ∃ y, f a = some y
  | [], _, _, a, ha => by simp at ha
  | b :: r, xs, h, a, ha => by
    rw [List.mapM_cons] at h
    cases hb : f b with
    | none => rw [hb] at h; simp at h
    | some y =>
      rw [hb] at h
      cases hr : r.mapM f with
      | none => rw [hr] at h; simp at h
      | some ys =>
        rcases List.mem_cons.1 ha with rfl | ha
        · exact ⟨y, hb⟩
        · exact mapM_all hr a ha

section
variable {X : Type} {enc : TypeId × Value → X} {P : Program} {w : World} {base : Nat} {sp : Nat → Bool} {held : Bool}

theorem kindsF_ok {g : TypeId → Option (List Ty)} {fuel : Nat} {cs : List Value} (hg : ∀ t l cs x, g t = some l → DataW.trod enc P w base sp held fuel t cs = some x → cellsAre l cs) :
    ∀ (ps : List (Nat × TypeId)) (off : Nat) (l : List Ty), kindsF P g ps off = some l → (∀ p ∈ ps, ∃ y, DataW.trod enc P w base sp held fuel p.2 ((cs.drop p.1).take (P.cellsOf p.2)) = some y) →
      ∀ (i : Nat) t, l[i]? = some t → ∃ y, cs[off + i]? = some y ∧ cellIs t y
  | [], off, l, h, _, i, t, hi => by simp only [kindsF, Option.some.injEq] at h; subst h; simp at hi
  | (o, e) :: r, off, l, h, hp, i, t, hi => by
    simp only [kindsF] at h
    split at h
    · rename_i ho
      subst ho
      cases h1 : g e with
      | none => rw [h1] at h; simp at h
      | some l1 =>
        rw [h1] at h
        simp only [Option.bind_some] at h
        split at h
        · rename_i hl
          cases h2 : kindsF P g r (o + l1.length) with
          | none => rw [h2] at h; simp at h
          | some l2 =>
            rw [h2] at h
            simp only [Option.map_some, Option.some.injEq] at h
            subst h
            rcases Nat.lt_or_ge i l1.length with hlt | hge
            · rw [List.getElem?_append_left hlt] at hi
              obtain ⟨x, hx⟩ := hp (o, e) (List.mem_cons_self ..)
              obtain ⟨_, h3⟩ := hg e l1 _ x h1 hx
              obtain ⟨y, hy, hc⟩ := h3 i t hi
              refine ⟨y, ?_, hc⟩
              rw [List.getElem?_take] at hy
              split at hy
              · rw [List.getElem?_drop] at hy; exact hy
              · cases hy
            · rw [List.getElem?_append_right hge] at hi
              obtain ⟨y, hy, hc⟩ := kindsF_ok hg r (o + l1.length) l2 h2 (fun p hp' => hp p (List.mem_cons_of_mem _ hp')) (i - l1.length) t hi
              exact ⟨y, by rw [← hy]; congr 1; omega, hc⟩
        · cases h
    · cases h

theorem kinds_ok : ∀ (n : Nat) (t : TypeId) (l : List Ty) (fuel : Nat) (cs : List Value) (x : DataW X × List MemPlace), kinds P n t = some l → DataW.trod enc P w base sp held fuel t cs = some x → cellsAre l cs
  | 0, t, l, fuel, cs, x, h, _ => by simp [kinds] at h
  | n + 1, t, l, 0, cs, x, h, hx => by simp [DataW.trod] at hx
  | n + 1, t, l, fuel + 1, cs, x, h, hx => by
    simp only [kinds] at h
    simp only [DataW.trod] at hx
    split at h
    · rename_i hu
      rw [hu] at hx
      cases h
      split at hx <;> simp_all
      exact ⟨rfl, fun i t hi => by cases i <;> simp at hi; subst hi; exact ⟨_, rfl, _, rfl⟩⟩
    · rename_i k hu
      rw [hu] at hx
      cases h
      split at hx <;> simp_all
      rename_i m _ _
      exact ⟨rfl, fun i t hi => by cases i <;> simp at hi; subst hi; exact ⟨_, rfl, _, rfl, by simp_all⟩⟩
    · rename_i hu
      rw [hu] at hx
      cases h
      split at hx <;> simp_all
      exact ⟨rfl, fun i t hi => by cases i <;> simp at hi; subst hi; exact ⟨_, rfl, _, rfl, by simp_all⟩⟩
    · rename_i fs hu
      rw [hu] at hx
      simp only [Option.bind_eq_some_iff] at h
      obtain ⟨l', h1, h2⟩ := h
      split at h2
      · rename_i hl
        cases h2
        simp only at hx
        split at hx
        · rename_i hcl
          simp only [Option.map_eq_some_iff] at hx
          obtain ⟨xs, hxs, _⟩ := hx
          refine ⟨by omega, fun i t hi => ?_⟩
          have := kindsF_ok (cs := cs) (fuel := fuel) (fun t l cs x => kinds_ok n t l fuel cs x) _ 0 _ h1 (fun p hp => by
            obtain ⟨f, hf, rfl⟩ := List.mem_map.1 hp
            exact mapM_all hxs f hf) i t hi
          simpa using this
        · cases hx
      · cases h2
    · rename_i m e hu
      rw [hu] at hx
      simp only [Option.bind_eq_some_iff] at h
      obtain ⟨l', h1, h2⟩ := h
      split at h2
      · rename_i hl
        cases h2
        simp only at hx
        split at hx
        · rename_i hcl
          simp only [Option.map_eq_some_iff] at hx
          obtain ⟨xs, hxs, _⟩ := hx
          refine ⟨by omega, fun i t hi => ?_⟩
          have := kindsF_ok (cs := cs) (fuel := fuel) (fun t l cs x => kinds_ok n t l fuel cs x) _ 0 _ h1 (fun p hp => by
            obtain ⟨j, hj, rfl⟩ := List.mem_map.1 hp
            exact mapM_all hxs j hj) i t hi
          simpa using this
        · cases hx
      · cases h2
    · cases h
end

/-- A value of a kind. -/
def avIs : Ty → AV → Prop
  | .int k, u => ∃ n, u = .int k n ∧ (Lit.int k n).wf = true
  | .bool, u => ∃ b, u = .bool b
  | .str, u => ∃ s : List UInt8, u = .str s ∧ s.length ≤ maxLen
  | .other, _ => False
def rowIs (l : List Ty) (r : List AV) : Prop := r.length = l.length ∧ ∀ (i : Nat) t, l[i]? = some t → ∃ u, r[i]? = some u ∧ avIs t u

theorem cellIs_av {t : Ty} {x : Value} (h : cellIs t x) : ∃ u, baseAv x = some u ∧ avIs t u := by
  cases t with
  | int k => obtain ⟨n, rfl, hw⟩ := h; exact ⟨_, rfl, n, rfl, hw⟩
  | bool => obtain ⟨b, rfl⟩ := h; exact ⟨_, rfl, b, rfl⟩
  | str => obtain ⟨s, rfl, hs⟩ := h; exact ⟨_, rfl, _, rfl, by simpa using hs⟩
  | other => exact h.elim

/-- A row of cells, as values. -/
theorem cellsAre_avs : ∀ {l : List Ty} {cs : List Value}, cellsAre l cs → ∃ us : List AV, rowIs l us ∧ ∀ (i : Nat) u, us[i]? = some u → ∃ x, cs[i]? = some x ∧ baseAv x = some u
  | [], cs, h => ⟨[], ⟨rfl, fun i t hi => by simp at hi⟩, fun i u hu => by simp at hu⟩
  | t :: r, [], h => by have := h.1; simp at this
  | t :: r, c :: cs, h => by
    obtain ⟨us, h1, h2⟩ := cellsAre_avs (l := r) (cs := cs) ⟨by simpa using h.1, fun i t hi => by
      obtain ⟨y, hy, hc⟩ := h.2 (i + 1) t (by simpa using hi); exact ⟨y, by simpa using hy, hc⟩⟩
    obtain ⟨y, hy, hc⟩ := h.2 0 t rfl
    simp at hy; subst hy
    obtain ⟨u, hu, ha⟩ := cellIs_av hc
    refine ⟨u :: us, ⟨by simp [h1.1], fun i t' hi => ?_⟩, fun i u' hu' => ?_⟩
    · cases i with
      | zero => simp at hi; subst hi; exact ⟨u, rfl, ha⟩
      | succ i => simp at hi; simpa using h1.2 i t' hi
    · cases i with
      | zero => simp at hu'; subst hu'; exact ⟨_, rfl, hu⟩
      | succ i => simp at hu'; simpa using h2 i u' hu'

theorem flatten_get {es : Nat} {rows : List (List AV)} (hl : ∀ r, r ∈ rows → r.length = es) {j : Nat} {u : AV} (h : rows.flatten[j]? = some u) : ∃ i row, rows[i]? = some row ∧ i * es ≤ j ∧ row[j - i * es]? = some u := by
  induction rows generalizing j with
  | nil => simp at h
  | cons r rs ih =>
    have hr := hl r (List.mem_cons_self ..)
    simp only [List.flatten_cons] at h
    rcases Nat.lt_or_ge j r.length with hlt | hge
    · rw [List.getElem?_append_left hlt] at h
      exact ⟨0, r, rfl, by omega, by simpa using h⟩
    · rw [List.getElem?_append_right hge] at h
      obtain ⟨i, row, h1, h2, h3⟩ := ih (fun x hx => hl x (List.mem_cons_of_mem _ hx)) h
      refine ⟨i + 1, row, by simpa using h1, by rw [Nat.add_mul]; omega, ?_⟩
      rw [← h3]; congr 1; rw [Nat.add_mul]; omega

/-- Rows that stand in the ground. -/
theorem ground_rows {W : World} {b s : Nat} {c : Array Value} {e : TypeId} {fr : Nat × Nat} {es : Nat} {rows : List (List AV)} (hb : W.heap[b]? = some (.cells c e fr)) (hs : s ≤ c.size) (hl : ∀ r, r ∈ rows → r.length = es)
    (h : ∀ (i : Nat) row, rows[i]? = some row → ∀ (j : Nat) u, row[j]? = some u → ∃ x, c[s + (i * es + j)]? = some x ∧ baseAv x = some u) {cap : Option Nat} : Sl (baseOf W) [] es (.slice (.base b (65536 * s)) 0 rows.length es cap) rows := by
  refine ⟨hl, .inr ⟨_, _, _, rfl, ?_⟩⟩
  have htake : (baseCells (c.toList.drop s)).take rows.flatten.length = rows.flatten := baseCells_take fun j u hu => by
    obtain ⟨i, row, h1, h2, h3⟩ := flatten_get hl hu
    obtain ⟨x, hx, hv⟩ := h i row h1 _ u h3
    refine ⟨x, ?_, hv⟩
    rw [List.getElem?_drop, Array.getElem?_toList, ← hx]
    congr 1; omega
  have hlen : rows.flatten.length ≤ (baseCells (c.toList.drop s)).length := by
    have := congrArg List.length htake
    rw [List.length_take] at this; omega
  refine cellsAt_iff'.2 ⟨baseCells (c.toList.drop s), ?_, ?_, ?_⟩
  · show baseOf W b (65536 * s) = _
    unfold baseOf; rw [hb, Nat.mul_div_cancel_left _ (by decide)]; simp only [if_pos hs]
  · rw [flatten_len hl] at hlen; omega
  · rw [List.drop_zero, ← flatten_len hl]; exact htake.symm

section
variable {X : Type} {enc : TypeId × Value → X} {P : Program} {W : World} {base : Nat}

theorem choose_rows {tys : List Ty} : ∀ (n : Nat) (f : Nat → List Value → Prop), (∀ i, i < n → ∃ cs, f i cs ∧ cellsAre tys cs) →
    ∃ rows : List (List AV), rows.length = n ∧ (∀ r, r ∈ rows → rowIs tys r) ∧ ∀ (i : Nat) row, rows[i]? = some row → ∃ cs, f i cs ∧ ∀ (j : Nat) u, row[j]? = some u → ∃ x, cs[j]? = some x ∧ baseAv x = some u
  | 0, _, _ => ⟨[], rfl, fun r hr => by simp at hr, fun i row h => by simp at h⟩
  | n + 1, f, h => by
    obtain ⟨rows, h1, h2, h3⟩ := choose_rows n f fun i hi => h i (by omega)
    obtain ⟨cs, hf, hc⟩ := h n (by omega)
    obtain ⟨us, g1, g2⟩ := cellsAre_avs hc
    refine ⟨rows ++ [us], by simp [h1], fun r hr => ?_, fun i row hi => ?_⟩
    · rcases List.mem_append.1 hr with hr | hr
      · exact h2 r hr
      · rw [List.mem_singleton.1 hr]; exact g1
    · rcases Nat.lt_or_ge i rows.length with hlt | hge
      · rw [List.getElem?_append_left hlt] at hi; exact h3 i row hi
      · rw [List.getElem?_append_right hge] at hi
        have : i = n := by
          rcases Nat.eq_or_lt_of_le hge with h' | h'
          · omega
          · rw [List.getElem?_eq_none (by simp; omega)] at hi; cases hi
        subst this
        rw [h1, Nat.sub_self] at hi
        simp at hi; subst hi
        exact ⟨cs, hf, g2⟩

/-- A slice among the arguments. -/
theorem arg_slice {t e : TypeId} {nk : Nat} {tys : List Ty} {v : Value} {d : DataW X} {p : List MemPlace} (ht : P.underlying t = some (.slice e)) (hk : kinds P nk e = some tys) (hce : P.cellsOf e = tys.length) (hpos : 0 < tys.length) (hval : Value.okWide P W .any base t v)
    (hd : DataW.Trod enc P W 0 (fun _ => true) true t v d p) : ∃ av rows, VR 0 plc0 av v ∧ Sl (baseOf W) [] tys.length av rows ∧ ∀ r, r ∈ rows → rowIs tys r := by
  obtain ⟨a0, len0, cap0, rfl⟩ := WideShapes.okWide_slice ht hval
  obtain ⟨fuel, hf⟩ := hd
  have hf' : DataW.trod enc P W 0 (fun _ => true) true fuel t [.slice a0 len0 cap0] = some (d, p) := hf
  rcases DataW.trod_slice ht hf' with ⟨h0, _⟩ | ⟨a, len, cap, elems, rest, n, _, h0, _, _, hl, hm, hlen, hel, hsp, _⟩
  · simp only [List.cons.injEq, Value.slice.injEq, and_true] at h0
    obtain ⟨rfl, rfl, rfl⟩ := h0
    exact ⟨.nils, [], rfl, ⟨fun r hr => by simp at hr, .inl ⟨rfl, rfl⟩⟩, fun r hr => by simp at hr⟩
  · simp only [List.cons.injEq, Value.slice.injEq, and_true] at h0
    obtain ⟨rfl, rfl, rfl⟩ := h0
    obtain ⟨rows, hr1, hr2, hr3⟩ := choose_rows (tys := tys) len0 (fun i cs => W.cells? 0 (a.add (i * P.cellsOf e)) (P.cellsOf e) = some cs) fun i hi => by
      have := hel i hi
      rw [List.getElem?_eq_getElem (by omega)] at this
      obtain ⟨cs, h1, h2⟩ := Option.bind_eq_some_iff.1 this
      exact ⟨cs, h1, kinds_ok _ _ _ _ _ _ hk h2⟩
    have hhas : a.spot = none ∧ ∃ row cells, W.shape? a.block = some (row, cells) := by
      have := hval
      simp only [Value.okWide, ht, Cell.okWide, Cell.ok] at this
      obtain ⟨_, _, h⟩ := this
      exact ⟨h.2.1, let ⟨r, c, h1, _⟩ := h.2.2; ⟨r, c, h1⟩⟩
    obtain ⟨hspot, rw0, cl0, hshape⟩ := hhas
    obtain ⟨c, el, fr, hheap⟩ : ∃ c el fr, W.heap[a.block]? = some (.cells c el fr) := by
      unfold World.shape? at hshape
      split at hshape
      · rename_i c el fr hc; exact ⟨c, el, fr, hc⟩
      · cases hshape
    have hadr : ∀ i, (a.add i).block = a.block ∧ (a.add i).off = a.off + i ∧ (a.add i).spot = none := fun i => by
      unfold Addr.add; split
      · rename_i h; subst h; exact ⟨rfl, rfl, hspot⟩
      · exact ⟨rfl, rfl, rfl⟩
    have hcell : ∀ i, W.cell? (a.add i) = c[a.off + i]? := fun i => by
      unfold World.cell?
      rw [(hadr i).1, hheap]
      simp only [(hadr i).2.2, (hadr i).2.1, Option.isSome_none, Bool.false_eq_true, if_false]
    have haa : ∀ i j, (a.add i).add j = a.add (i + j) := fun i j => by
      unfold Addr.add
      by_cases hi : i = 0 <;> by_cases hj : j = 0 <;> simp [hi, hj, Nat.add_assoc]
    have hall : ∀ (i : Nat) row, rows[i]? = some row → ∀ (j : Nat) u, row[j]? = some u → ∃ x, c[a.off + (i * tys.length + j)]? = some x ∧ baseAv x = some u := fun i row hi j u hu => by
      obtain ⟨cs, h1, h2⟩ := hr3 i row hi
      obtain ⟨x, hx, hv⟩ := h2 j u hu
      obtain ⟨_, hcl, hcc⟩ := World.cells?_some h1
      have hj : j < P.cellsOf e := by
        rcases Nat.lt_or_ge j cs.length with h | h
        · omega
        · rw [List.getElem?_eq_none h] at hx; cases hx
      have := hcc j hj
      rw [haa, hcell, hx] at this
      exact ⟨x, by rw [← this, hce], hv⟩
    by_cases hcap : cap0 = 0
    · have hl0 : len0 = 0 := by omega
      subst hcap; subst hl0
      have hre : rows = [] := List.length_eq_zero_iff.1 hr1
      subst hre
      refine ⟨.slice (.base a.block 0) 0 0 tys.length (some 0), [], ?_, ground_rows (rows := []) hheap (Nat.zero_le _) (fun r hr => by simp at hr) (fun i row h => by simp at h), fun r hr => by simp at hr⟩
      exact ⟨trivial, a, 0, rfl, Nat.le_refl _, rfl, fun h => absurd h (by omega)⟩
    · have hfirst : ∃ cs, W.cells? 0 (a.add (0 * P.cellsOf e)) (P.cellsOf e) = some cs := by
        rcases Nat.eq_zero_or_pos len0 with h0 | h0
        · obtain ⟨h1, h2⟩ := hsp rfl
          have := h2 0 (by omega)
          rw [List.getElem?_eq_getElem (by omega)] at this
          obtain ⟨cs, h3, _⟩ := Option.bind_eq_some_iff.1 this
          exact ⟨cs, by rw [← h3, h0]⟩
        · have := hel 0 h0
          rw [List.getElem?_eq_getElem (by omega)] at this
          obtain ⟨cs, h3, _⟩ := Option.bind_eq_some_iff.1 this
          exact ⟨cs, h3⟩
      obtain ⟨cs, hcs⟩ := hfirst
      obtain ⟨_, hcl, hcc⟩ := World.cells?_some hcs
      have h0 := hcc 0 (by omega)
      rw [haa, hcell, List.getElem?_eq_getElem (by omega)] at h0
      have hoff : a.off ≤ c.size := by
        rcases Nat.lt_or_ge a.off c.size with h | h
        · omega
        · rw [Array.getElem?_eq_none (by omega)] at h0; cases h0
      refine ⟨.slice (.base a.block (65536 * a.off)) 0 rows.length tys.length (some cap0), rows, ?_, ground_rows hheap hoff (fun r hr => (hr2 r hr).1) hall, hr2⟩
      refine ⟨trivial, a, cap0, by rw [hr1], by rw [hr1]; exact hl, rfl, fun _ => ?_⟩
      show a = ⟨a.block, 65536 * a.off / 65536 + 0, none⟩
      rw [Nat.mul_div_cancel_left _ (by decide), ← hspot]; rfl
end

end Go.Am
