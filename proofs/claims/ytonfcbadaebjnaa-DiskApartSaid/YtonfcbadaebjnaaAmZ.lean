/- The law's arguments, met, of which something is known of how long their rows are. -/
import Derived.Test.YtonfcbadaebjnaaAmW
namespace Go.Am
open Go Go.RowKit

section
variable {X : Type} {enc : TypeId × Value → X} {P : Program} {w : World} {base : Nat} {sp : Nat → Bool} {held : Bool}
/-- What is known of an argument's reading is known of its parts. -/
structure ZOk (P : Program) (M : Nat) (Z : TypeId → DataW X → Prop) : Prop where
  sl : ∀ {t e : TypeId} {elems spare : List (DataW X)}, P.underlying t = some (.slice e) → Z t (.slice elems spare) → (0 < P.bytesOf e → elems.length ≤ M) ∧ ∀ d, d ∈ elems → Z e d
  st : ∀ {t : TypeId} {fs : Array Field} {parts : List (DataW X)}, P.underlying t = some (.struct fs) → Z t (.agg parts) → ∀ (i : Nat) f d, fs.toList[i]? = some f → parts[i]? = some d → Z f.type d
  ar : ∀ {t e : TypeId} {m : Nat} {parts : List (DataW X)}, P.underlying t = some (.array m e) → Z t (.agg parts) → ∀ d, d ∈ parts → Z e d
theorem mapM_at {α β : Type} {f : α → Option β} : ∀ {l : List α} {xs : List β}, l.mapM f = some xs → ∀ a ∈ l, ∃ (i : Nat) (y : β), l[i]? = some a ∧ xs[i]? = some y ∧ f a = some y
  | [], _, _, a, ha => by cases ha
  | b :: l, xs, h, a, ha => by
    simp only [List.mapM_cons, Option.bind_eq_bind, Option.bind_eq_some_iff, Option.pure_def, Option.some.injEq] at h
    obtain ⟨y, hy, ys, hys, rfl⟩ := h
    rcases List.mem_cons.1 ha with rfl | ha
    · exact ⟨0, y, rfl, rfl, hy⟩
    · obtain ⟨i, z, h1, h2, h3⟩ := mapM_at hys a ha
      exact ⟨i + 1, z, by simpa using h1, by simpa using h2, h3⟩
theorem kindsZ_ok {α : Type} {g : TypeId → Option (List α)} {fuel : Nat} {C : α → Value → Prop} {Z : List Value → Prop} {Zd : TypeId → DataW X → Prop} (hZ : ∀ cs a b, Z cs → Z ((cs.drop a).take b)) {cs : List Value} (hz : Z cs) (hg : ∀ t l cs x, g t = some l → Z cs → DataW.trod enc P w base sp held fuel t cs = some x → Zd t x.1 → cs.length = l.length ∧ ∀ (i : Nat) k, l[i]? = some k → ∃ y, cs[i]? = some y ∧ C k y) :
    ∀ (ps : List (Nat × TypeId)) (off : Nat) (l : List α), kindsG P g ps off = some l → (∀ p ∈ ps, ∃ y, DataW.trod enc P w base sp held fuel p.2 ((cs.drop p.1).take (P.cellsOf p.2)) = some y ∧ Zd p.2 y.1) →
      ∀ (i : Nat) k, l[i]? = some k → ∃ y, cs[off + i]? = some y ∧ C k y
  | [], off, l, h, _, i, t, hi => by simp only [kindsG, Option.some.injEq] at h; subst h; simp at hi
  | (o, e) :: r, off, l, h, hp, i, t, hi => by
    simp only [kindsG] at h
    split at h
    · rename_i ho
      subst ho
      cases h1 : g e with
      | none => rw [h1] at h; simp at h
      | some l1 =>
        rw [h1] at h
        simp only [Option.bind_some] at h
        split at h
        · rename_i hl
          cases h2 : kindsG P g r (o + l1.length) with
          | none => rw [h2] at h; simp at h
          | some l2 =>
            rw [h2] at h
            simp only [Option.map_some, Option.some.injEq] at h
            subst h
            rcases Nat.lt_or_ge i l1.length with hlt | hge
            · rw [List.getElem?_append_left hlt] at hi
              obtain ⟨x, hx, hxz⟩ := hp (o, e) (List.mem_cons_self ..)
              obtain ⟨_, h3⟩ := hg e l1 _ x h1 (hZ _ _ _ hz) hx hxz
              obtain ⟨y, hy, hc⟩ := h3 i t hi
              refine ⟨y, ?_, hc⟩
              rw [List.getElem?_take] at hy
              split at hy
              · rw [List.getElem?_drop] at hy; exact hy
              · cases hy
            · rw [List.getElem?_append_right hge] at hi
              obtain ⟨y, hy, hc⟩ := kindsZ_ok hZ hz hg r (o + l1.length) l2 h2 (fun p hp' => hp p (List.mem_cons_of_mem _ hp')) (i - l1.length) t hi
              exact ⟨y, by rw [← hy]; congr 1; omega, hc⟩
        · cases h
    · cases h
end

/-- What an argument's value is worth, so deep; no row is longer than M. -/
def GoodZ (P : Program) (b0 : Nat) (W : World) (M : Nat) : Nat → CK → AV → Prop
  | _, .fl t, u => avIs t u
  | 0, .sl _, _ => True
  | d + 1, .sl e, u => ∀ l, ckinds P 8 e = some l → P.cellsOf e = l.length → 0 < l.length → (∀ o off len es c, u = .slice o off len es (some c) → len ≤ c) ∧ (0 < P.bytesOf e → ∀ n, lenOf u = some n → n ≤ M) ∧ ∃ rows, Sl (baseW P b0 W) [] l.length u rows ∧ ∀ r, r ∈ rows → r.length = l.length ∧ ∀ (j : Nat) k, l[j]? = some k → ∃ w, r[j]? = some w ∧ GoodZ P b0 W M d k w

section
variable {X : Type} {enc : TypeId × Value → X} {P : Program} {W : World} {b0 : Nat}
theorem GoodZ.fl {M d : Nat} {t : Ty} {u : AV} (h : avIs t u) : GoodZ P b0 W M d (.fl t) u := by cases d <;> exact h
theorem GoodZ.av {M d : Nat} {t : Ty} {u : AV} (h : GoodZ P b0 W M d (.fl t) u) : avIs t u := by cases d <;> exact h
theorem trodZ {M : Nat} {Z : TypeId → DataW X → Prop} (hO : ZOk P M Z) (hb0 : (∃ (b : Nat) (c : Array Value) (e : TypeId) (f : Nat × Nat), W.heap[b]? = some (Obj.cells c e f)) → HasB W b0) : ∀ (d n : Nat) (t : TypeId) (l : List CK) (fuel : Nat) (cs : List Value) (x : DataW X × List MemPlace), ckinds P n t = some l → ZeroB W b0 cs → DataW.trod enc P W 0 (fun _ => true) true fuel t cs = some x → Z t x.1 →
    cs.length = l.length ∧ ∀ (i : Nat) k, l[i]? = some k → ∃ y, cs[i]? = some y ∧ ∃ u, bavW P b0 k y = some u ∧ GoodZ P b0 W M d k u
  | d, 0, t, l, fuel, cs, x, h, _, _, _ => by simp [ckinds] at h
  | d, n + 1, t, l, 0, cs, x, h, _, hx, _ => by simp [DataW.trod] at hx
  | d, n + 1, t, l, fuel + 1, cs, x, h, hz, hx, hzd => by
    have hx0 := hx
    simp only [ckinds] at h
    simp only [DataW.trod] at hx
    split at h
    · rename_i hu
      rw [hu] at hx
      cases h
      split at hx <;> simp_all
      exact fun i k hi => by cases i <;> simp at hi; subst hi; exact ⟨_, rfl, _, rfl, GoodZ.fl ⟨_, rfl⟩⟩
    · rename_i k hu
      rw [hu] at hx
      cases h
      split at hx <;> simp_all
      rename_i m _ _
      exact fun i k hi => by cases i <;> simp at hi; subst hi; exact ⟨_, rfl, _, rfl, GoodZ.fl ⟨_, rfl, by simp_all⟩⟩
    · rename_i hu
      rw [hu] at hx
      cases h
      split at hx <;> simp_all
      exact fun i k hi => by cases i <;> simp at hi; subst hi; exact ⟨_, rfl, _, rfl, GoodZ.fl ⟨_, rfl, by simp_all⟩⟩
    · rename_i e ht
      by_cases he : e < 65536 ∧ 0 < P.cellsOf e
      · rw [if_pos he] at h
        obtain ⟨he, hpos⟩ := he
        cases h
        have one : ∀ (y : Value) (u : AV), bavW P b0 (.sl e) y = some u → GoodZ P b0 W M d (.sl e) u → [y].length = [CK.sl e].length ∧ ∀ (i : Nat) k, [CK.sl e][i]? = some k → ∃ z, [y][i]? = some z ∧ ∃ u, bavW P b0 k z = some u ∧ GoodZ P b0 W M d k u := fun y u h1 h2 =>
          ⟨rfl, fun i k hi => by cases i <;> simp at hi; subst hi; exact ⟨y, rfl, u, h1, h2⟩⟩
        rcases DataW.trod_slice ht hx0 with ⟨rfl, _⟩ | ⟨a, len, cap, elems, rest, n', _, rfl, hxe, _, hl, hm, hlen, hel, hsp, _⟩
        · refine one _ .nils rfl ?_
          cases d with
          | zero => trivial
          | succ d => exact fun l _ _ _ => ⟨fun o off len es c e => (by cases e), fun _ n hn => (by cases hn; exact Nat.zero_le _), [], ⟨fun r hr => (by simp at hr), .inl ⟨rfl, rfl⟩⟩, fun r hr => by simp at hr⟩
        · rw [hxe] at hzd
          obtain ⟨hz1, hz2⟩ := hO.sl ht hzd
          by_cases hcap : cap = 0
          · have hl0 : len = 0 := by omega
            subst hcap; subst hl0
            obtain ⟨c, e', f, hc⟩ := hz a 0 (by simp)
            refine one _ (.slice (.base b0 e) 0 0 (P.cellsOf e) (some 0)) rfl ?_
            cases d with
            | zero => trivial
            | succ d =>
              intro l hk hce _
              refine ⟨fun o off len es c e => (by cases e; exact Nat.le_refl _), fun _ n hn => (by cases hn; exact Nat.zero_le _), [], ?_, fun r hr => by simp at hr⟩
              have := ground_rowsW (P := P) (b0 := b0) (s := 0) (rows := []) (cap := some 0) hc (Nat.zero_le _) he hk (fun r hr => by simp at hr) (fun i row h => by simp at h)
              rw [hce]
              simpa using this
          · -- the first cell
            have hfirst : ∃ cs, W.cells? 0 (a.add (0 * P.cellsOf e)) (P.cellsOf e) = some cs := by
              rcases Nat.eq_zero_or_pos len with h0 | h0
              · obtain ⟨h1, h2⟩ := hsp rfl
                have := h2 0 (by omega)
                rw [List.getElem?_eq_getElem (by omega)] at this
                obtain ⟨cs, h3, _⟩ := Option.bind_eq_some_iff.1 this
                exact ⟨cs, by rw [← h3, h0]⟩
              · have := hel 0 h0
                rw [List.getElem?_eq_getElem (by omega)] at this
                obtain ⟨cs, h3, _⟩ := Option.bind_eq_some_iff.1 this
                exact ⟨cs, h3⟩
            obtain ⟨cs, hcs⟩ := hfirst
            obtain ⟨_, hcl, hcc⟩ := World.cells?_some hcs
            have h0 := hcc 0 (by omega)
            rw [add_addW, List.getElem?_eq_getElem (by omega)] at h0
            have h0' : W.cell? (a.add 0) = some cs[0] := by simpa using h0
            have hspot := cell_spotW h0'
            obtain ⟨c, el, fr, hheap, hc0⟩ := cell_blockW h0' hspot
            have hoff : a.off ≤ c.size := by
              rcases Nat.lt_or_ge (a.off + 0) c.size with h | h
              · omega
              · rw [Array.getElem?_eq_none h] at hc0; cases hc0
            have hB : HasB W b0 := hb0 ⟨_, c, el, fr, hheap⟩
            refine one _ (.slice (.base a.block (65536 * a.off + e)) 0 len (P.cellsOf e) (some cap)) (by simp only [bavW]; rw [if_neg hcap, if_pos ⟨hl, hspot⟩]) ?_
            cases d with
            | zero => trivial
            | succ d =>
              intro l hk hce _
              refine ⟨fun o off len' es c' e' => by cases e'; exact hl, fun hby n hn => by cases hn; have := hz1 hby; rw [List.length_map, hlen] at this; exact this, ?_⟩
              obtain ⟨rows, hr1, hr2, hr3⟩ := choose_rowsW (P := P) (b0 := b0) (l := l) (G := GoodZ P b0 W M d) len (fun i cs => W.cells? 0 (a.add (i * P.cellsOf e)) (P.cellsOf e) = some cs) fun i hi => by
                have := hel i hi
                rw [List.getElem?_eq_getElem (by omega)] at this
                obtain ⟨cs, h1, h2⟩ := Option.bind_eq_some_iff.1 this
                exact ⟨cs, h1, trodZ hO hb0 d 8 e l _ cs _ hk (fun _ _ _ => hB) h2 (hz2 _ (List.mem_map.2 ⟨_, List.getElem_mem _, rfl⟩))⟩
              have hall : ∀ (i : Nat) row, rows[i]? = some row → ∀ (j : Nat) u, row[j]? = some u → ∃ k x, l[j]? = some k ∧ c[a.off + (i * l.length + j)]? = some x ∧ bavW P b0 k x = some u := fun i row hi j u hu => by
                obtain ⟨cs, h1, h2⟩ := hr3 i row hi
                obtain ⟨k, x, hk', hx, hv⟩ := h2 j u hu
                obtain ⟨_, hcl, hcc⟩ := World.cells?_some h1
                have hj : j < P.cellsOf e := by
                  rcases Nat.lt_or_ge j cs.length with h | h
                  · omega
                  · rw [List.getElem?_eq_none h] at hx; cases hx
                have := hcc j hj
                rw [add_addW, hx] at this
                obtain ⟨c', el', fr', hheap', hcx⟩ := cell_blockW this hspot
                rw [hheap] at hheap'
                cases hheap'
                exact ⟨k, x, hk', by rw [← hcx, hce], hv⟩
              have := ground_rowsW (cap := some cap) hheap hoff he hk (fun r hr => (hr2 r hr).1) hall
              rw [hr1, ← hce] at this
              rw [← hce]
              exact ⟨rows, this, fun r hr => by rw [hce]; exact hr2 r hr⟩
      · rw [if_neg he] at h; cases h
    · rename_i fs hu
      rw [hu] at hx
      obtain ⟨l', h1, h2⟩ := Option.bind_eq_some_iff.1 h
      split at h2
      · rename_i hl
        cases h2
        simp only at hx
        split at hx
        · rename_i hcl
          simp only [Option.map_eq_some_iff] at hx
          obtain ⟨xs, hxs, hxe⟩ := hx
          rw [← hxe] at hzd
          refine ⟨by omega, fun i k hi => ?_⟩
          have := kindsZ_ok (Zd := Z) (C := fun k y => ∃ u, bavW P b0 k y = some u ∧ GoodZ P b0 W M d k u) (Z := ZeroB W b0) (fun cs a b h => h.sub a b) hz (fun t l cs x => trodZ hO hb0 d n t l fuel cs x) _ 0 _ h1 (fun p hp => by
            obtain ⟨f, hf, rfl⟩ := List.mem_map.1 hp
            obtain ⟨q, y, h3, h4, h5⟩ := mapM_at hxs f hf
            exact ⟨y, h5, hO.st hu hzd q f y.1 h3 (by rw [List.getElem?_map, h4]; rfl)⟩) i k hi
          simpa using this
        · cases hx
      · cases h2
    · rename_i m e hu
      rw [hu] at hx
      obtain ⟨l', h1, h2⟩ := Option.bind_eq_some_iff.1 h
      split at h2
      · rename_i hl
        cases h2
        simp only at hx
        split at hx
        · rename_i hcl
          simp only [Option.map_eq_some_iff] at hx
          obtain ⟨xs, hxs, hxe⟩ := hx
          rw [← hxe] at hzd
          refine ⟨by omega, fun i k hi => ?_⟩
          have := kindsZ_ok (Zd := Z) (C := fun k y => ∃ u, bavW P b0 k y = some u ∧ GoodZ P b0 W M d k u) (Z := ZeroB W b0) (fun cs a b h => h.sub a b) hz (fun t l cs x => trodZ hO hb0 d n t l fuel cs x) _ 0 _ h1 (fun p hp => by
            obtain ⟨j, hj, rfl⟩ := List.mem_map.1 hp
            obtain ⟨q, y, h3, h4, h5⟩ := mapM_at hxs j hj
            exact ⟨y, h5, hO.ar hu hzd y.1 (List.mem_map.2 ⟨y, List.mem_of_getElem? h4, rfl⟩)⟩) i k hi
          simpa using this
        · cases hx
      · cases h2
    · cases h
termination_by d n => (d, n)
end

end Go.Am
