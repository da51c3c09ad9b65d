/- The law's arguments, met: values of any type of cells, slices of them, slices in slices. An id of the ground tells the type of what stands there. -/
import Derived.Test.YtonfcbadaebjnaaAmE
namespace Go.Am
open Go Go.RowKit

/-- What a cell holds: something flat, or a slice of a type. -/
inductive CK
  | fl (t : Ty)
  | sl (e : Nat)

def kindsG {α : Type} (P : Program) (g : TypeId → Option (List α)) : List (Nat × TypeId) → Nat → Option (List α)
  | [], _ => some []
  | (o, e) :: r, off => if o = off then (g e).bind fun l => if l.length = P.cellsOf e then (kindsG P g r (off + l.length)).map (l ++ ·) else none else none
def ckinds (P : Program) : Nat → TypeId → Option (List CK)
  | 0, _ => none
  | f + 1, t => match P.underlying t with
    | some .bool => some [.fl .bool]
    | some (.int k) => some [.fl (.int k)]
    | some .string => some [.fl .str]
    | some (.slice e) => if e < 65536 ∧ 0 < P.cellsOf e then some [.sl e] else none
    | some (.struct fs) => (kindsG P (ckinds P f) (fs.toList.map fun f => (f.offset, f.type)) 0).bind fun l => if l.length = P.cellsOf t then some l else none
    | some (.array n e) => (kindsG P (ckinds P f) ((List.range n).map fun i => (i * P.cellsOf e, e)) 0).bind fun l => if l.length = P.cellsOf t then some l else none
    | _ => none

section
variable (P : Program) (b0 : Nat)
/-- A cell of the ground; a slice without room is told at the block b0. -/
def bavW : CK → Value → Option AV
  | .fl _, x => baseAv x
  | .sl _, .slice none len cap => if len = 0 ∧ cap = 0 then some .nils else none
  | .sl e, .slice (some a) len cap => if cap = 0 then (if len = 0 then some (.slice (.base b0 e) 0 0 (P.cellsOf e) (some 0)) else none) else if len ≤ cap ∧ a.spot = none then some (.slice (.base a.block (65536 * a.off + e)) 0 len (P.cellsOf e) (some cap)) else none
  | .sl _, _ => none
def cellsW (l : List CK) : Nat → List Value → List AV
  | _, [] => []
  | j, x :: r => match (l[j % l.length]?).bind fun k => bavW P b0 k x with
    | some v => v :: cellsW l (j + 1) r
    | none => []
def baseW (W : World) : Base := fun b s => match W.heap[b]? with
  | some (.cells c _ _) => (ckinds P 8 (s % 65536)).bind fun l => if s / 65536 ≤ c.size then some (cellsW P b0 l 0 (c.toList.drop (s / 65536))) else none
  | _ => none
end

section
variable {P : Program} {b0 : Nat}
theorem bavW_ok {k : CK} {x : Value} {v : AV} (hk : ∀ e, k = .sl e → e < 65536) (h : bavW P b0 k x = some v) : v.one = true ∧ VR 0 plc0 v x := by
  unfold bavW at h
  split at h
  · exact baseAv_ok h
  · split at h
    · rename_i hz
      obtain ⟨rfl, rfl⟩ := hz
      cases h; exact ⟨rfl, rfl⟩
    · cases h
  · rename_i e a len cap
    have he := hk e rfl
    split at h
    · rename_i hz
      subst hz
      split at h
      · rename_i hl
        subst hl
        cases h
        exact ⟨rfl, trivial, a, 0, rfl, Nat.le_refl _, rfl, fun h => absurd h (by omega)⟩
      · cases h
    · split at h
      · rename_i hl
        cases h
        refine ⟨rfl, trivial, a, cap, rfl, hl.1, rfl, fun _ => ?_⟩
        show a = ⟨a.block, (65536 * a.off + e) / 65536 + 0, none⟩
        rw [show (65536 * a.off + e) / 65536 + 0 = a.off from by omega, ← hl.2]
      · cases h
  · cases h
theorem cellsW_get {l : List CK} : ∀ {L : List Value} {i j : Nat} {u : AV}, (cellsW P b0 l i L)[j]? = some u → ∃ k x, l[(i + j) % l.length]? = some k ∧ L[j]? = some x ∧ bavW P b0 k x = some u
  | [], i, j, u, h => by simp [cellsW] at h
  | x :: r, i, j, u, h => by
    unfold cellsW at h
    split at h
    · rename_i v hv
      cases j with
      | zero =>
        simp at h; subst h
        obtain ⟨k, h1, h2⟩ := Option.bind_eq_some_iff.1 hv
        exact ⟨k, x, by simpa using h1, rfl, h2⟩
      | succ j =>
        simp at h
        obtain ⟨k, y, h0, h1, h2⟩ := cellsW_get h
        exact ⟨k, y, by rw [← h0]; congr 2; omega, by simpa using h1, h2⟩
    · simp at h
theorem cellsW_length {l : List CK} : ∀ (i : Nat) (L : List Value), (cellsW P b0 l i L).length ≤ L.length
  | _, [] => by simp [cellsW]
  | i, x :: r => by
    unfold cellsW
    split
    · simpa using cellsW_length (i + 1) r
    · simp
theorem cellsW_take {l : List CK} : ∀ {L : List Value} {i : Nat} {vs : List AV}, (∀ (j : Nat) v, vs[j]? = some v → ∃ k x, l[(i + j) % l.length]? = some k ∧ L[j]? = some x ∧ bavW P b0 k x = some v) → (cellsW P b0 l i L).take vs.length = vs
  | L, _, [], _ => by simp
  | [], i, v :: vs, h => by obtain ⟨k, x, _, hx, _⟩ := h 0 v rfl; simp at hx
  | x :: r, i, v :: vs, h => by
    obtain ⟨k, y, hk, hy, hv⟩ := h 0 v rfl
    simp at hy; subst hy
    have e : ((l[i % l.length]?).bind fun k => bavW P b0 k x) = some v := by rw [show l[i % l.length]? = some k from by simpa using hk]; exact hv
    simp only [cellsW, e, List.length_cons, List.take_succ_cons]
    rw [cellsW_take fun j w hw => (by obtain ⟨k, z, h0, h1, h2⟩ := h (j + 1) w (by simpa using hw); exact ⟨k, z, by rw [← h0]; congr 2; omega, by simpa using h1, h2⟩)]

theorem kindsG_mem {α : Type} {g : TypeId → Option (List α)} {Z : α → Prop} (hg : ∀ t l, g t = some l → ∀ k, k ∈ l → Z k) : ∀ (ps : List (Nat × TypeId)) (off : Nat) (l : List α), kindsG P g ps off = some l → ∀ k, k ∈ l → Z k
  | [], off, l, h, k, hk => by simp only [kindsG, Option.some.injEq] at h; subst h; simp at hk
  | (o, e) :: r, off, l, h, k, hk => by
    simp only [kindsG] at h
    split at h
    · cases h1 : g e with
      | none => rw [h1] at h; simp at h
      | some l1 =>
        rw [h1] at h
        simp only [Option.bind_some] at h
        split at h
        · cases h2 : kindsG P g r (off + l1.length) with
          | none => rw [h2] at h; simp at h
          | some l2 =>
            rw [h2] at h
            simp only [Option.map_some, Option.some.injEq] at h
            subst h
            rcases List.mem_append.1 hk with hk | hk
            · exact hg e l1 h1 k hk
            · exact kindsG_mem hg r _ l2 h2 k hk
        · cases h
    · cases h
theorem ckinds_small : ∀ (n : Nat) (t : TypeId) (l : List CK), ckinds P n t = some l → ∀ k, k ∈ l → ∀ e, k = .sl e → e < 65536
  | 0, t, l, h => by simp [ckinds] at h
  | n + 1, t, l, h => by
    simp only [ckinds] at h
    split at h
    · cases h; intro k hk e he; subst he; simp at hk
    · cases h; intro k hk e he; subst he; simp at hk
    · cases h; intro k hk e he; subst he; simp at hk
    · split at h
      · rename_i hlt
        cases h; intro k hk e he; subst he; simp at hk; subst hk; exact hlt.1
      · cases h
    · obtain ⟨l', h1, h2⟩ := Option.bind_eq_some_iff.1 h
      split at h2
      · cases h2; exact kindsG_mem (Z := fun k => ∀ e, k = .sl e → e < 65536) (ckinds_small n) _ _ _ h1
      · cases h2
    · obtain ⟨l', h1, h2⟩ := Option.bind_eq_some_iff.1 h
      split at h2
      · cases h2; exact kindsG_mem (Z := fun k => ∀ e, k = .sl e → e < 65536) (ckinds_small n) _ _ _ h1
      · cases h2
    · cases h

theorem baseW_ok (W : World) : BaseOk (baseW P b0 W) (bwOf W) := by
  refine ⟨fun b s cs h => ?_⟩
  unfold baseW at h
  split at h
  · rename_i c e f hc
    obtain ⟨l, hk, h⟩ := Option.bind_eq_some_iff.1 h
    split at h
    · rename_i hs
      cases h
      have sm := fun {k : CK} {i : Nat} (hi : l[i]? = some k) => ckinds_small 8 _ l hk k (List.mem_of_getElem? hi)
      refine ⟨fun v hv => ?_, (Array.getElem?_eq_some_iff.1 hc).1, c, e, f, hc, ?_, fun j u hu => ?_⟩
      · obtain ⟨j, hj⟩ := List.mem_iff_getElem?.1 hv
        obtain ⟨k, x, h1, _, h2⟩ := cellsW_get hj
        exact (bavW_ok (sm h1) h2).1
      · have := cellsW_length (P := P) (b0 := b0) (l := l) 0 (c.toList.drop (s / 65536))
        simp at this
        omega
      · obtain ⟨k, x, h0, h1, h2⟩ := cellsW_get hu
        exact ⟨x, by simpa using h1, (bavW_ok (sm h0) h2).2⟩
    · cases h
  · cases h

theorem entryW {F : FuncId → Option AFunc} (hF : TableOk P F) {W : World} {f : FuncId} {as : List AV} {args : Array Value} (hv : VRL 0 plc0 as args.toList) (h : ACall (baseW P b0 W) F f as [] fun v _ => v = .bool true) :
    Calls P f args W fun e W' => e = .returned (.bool true) ∧ Below W.heap.size W W' := by
  have R : Rel (bwOf W) plc0 [] W := ⟨⟨rfl, rfl, rfl, Nat.le_refl _, fun _ _ => rfl⟩, fun k o h => by simp at h, fun k l o o' h => by simp at h⟩
  obtain ⟨_, hs⟩ := call_ok (baseW_ok W) hF f as [] _ h
  refine (hs plc0 W args R hv).mono fun e w' hr => ?_
  obtain ⟨v, H', m', x, h1, h2, _, h4, h5⟩ := hr
  refine ⟨?_, ⟨h4.below.os, h4.below.tape, h4.below.output, h4.below.size, h4.below.block⟩⟩
  subst h1
  simp only [VR] at h5
  rw [h2, h5]

theorem ground_rowsW {W : World} {b s e' : Nat} {c : Array Value} {e : TypeId} {fr : Nat × Nat} {l : List CK} {rows : List (List AV)} (hb : W.heap[b]? = some (.cells c e fr)) (hs : s ≤ c.size) (he : e' < 65536) (hk : ckinds P 8 e' = some l) (hl : ∀ r, r ∈ rows → r.length = l.length)
    (h : ∀ (i : Nat) row, rows[i]? = some row → ∀ (j : Nat) u, row[j]? = some u → ∃ k x, l[j]? = some k ∧ c[s + (i * l.length + j)]? = some x ∧ bavW P b0 k x = some u) {cap : Option Nat} : Sl (baseW P b0 W) [] l.length (.slice (.base b (65536 * s + e')) 0 rows.length l.length cap) rows := by
  refine ⟨hl, .inr ⟨_, _, _, rfl, ?_⟩⟩
  have htake : (cellsW P b0 l 0 (c.toList.drop s)).take rows.flatten.length = rows.flatten := cellsW_take fun j u hu => by
    obtain ⟨i, row, h1, h2, h3⟩ := flatten_get hl hu
    obtain ⟨k, x, h0, hx, hv⟩ := h i row h1 _ u h3
    have hlt : j - i * l.length < l.length := by
      rcases Nat.lt_or_ge (j - i * l.length) l.length with h' | h'
      · exact h'
      · rw [List.getElem?_eq_none h'] at h0; cases h0
    refine ⟨k, x, ?_, ?_, hv⟩
    · rw [← h0]
      congr 1
      have e2 := Nat.mul_comm i l.length
      have e1 : 0 + j = (j - i * l.length) + l.length * i := by omega
      rw [e1, Nat.add_mul_mod_self_left, Nat.mod_eq_of_lt hlt]
    · rw [List.getElem?_drop, Array.getElem?_toList, ← hx]
      congr 1; omega
  have hlen : rows.flatten.length ≤ (cellsW P b0 l 0 (c.toList.drop s)).length := by
    have := congrArg List.length htake
    rw [List.length_take] at this; omega
  refine cellsAt_iff'.2 ⟨cellsW P b0 l 0 (c.toList.drop s), ?_, ?_, ?_⟩
  · show baseW P b0 W b (65536 * s + e') = _
    unfold baseW; rw [hb, show (65536 * s + e') % 65536 = e' from by omega, show (65536 * s + e') / 65536 = s from by omega]
    simp only [hk, Option.bind_some, if_pos hs]
  · rw [flatten_len hl] at hlen; omega
  · rw [List.drop_zero, ← flatten_len hl]; exact htake.symm
end

theorem add_addW (a : Addr) (i j : Nat) : (a.add i).add j = a.add (i + j) := by
  unfold Addr.add
  by_cases hi : i = 0 <;> by_cases hj : j = 0 <;> simp [hi, hj, Nat.add_assoc]
/-- Where a cell is met, there is a block. -/
theorem cell_blockW {W : World} {a : Addr} {i : Nat} {x : Value} (h : W.cell? (a.add i) = some x) (hs : a.spot = none) : ∃ c e f, W.heap[a.block]? = some (.cells c e f) ∧ c[a.off + i]? = some x := by
  have hadr : (a.add i).block = a.block ∧ (a.add i).off = a.off + i ∧ (a.add i).spot = none := by
    unfold Addr.add; split
    · rename_i h; subst h; exact ⟨rfl, rfl, hs⟩
    · exact ⟨rfl, rfl, rfl⟩
  unfold World.cell? at h
  rw [hadr.1] at h
  split at h
  · rename_i c e f hc
    simp only [hadr.2.2, hadr.2.1, Option.isSome_none, Bool.false_eq_true, if_false] at h
    exact ⟨c, e, f, hc, h⟩
  · cases h
theorem cell_spotW {W : World} {a : Addr} {x : Value} (h : W.cell? (a.add 0) = some x) : a.spot = none := by
  have e : a.add 0 = a := by unfold Addr.add; simp
  rw [e] at h
  unfold World.cell? at h
  split at h
  · split at h
    · cases h
    · rename_i hs; simpa using hs
  · cases h


/-- What an argument's value is worth, so deep. -/
def GoodW (P : Program) (b0 : Nat) (W : World) : Nat → CK → AV → Prop
  | _, .fl t, u => avIs t u
  | 0, .sl _, _ => True
  | d + 1, .sl e, u => ∀ l, ckinds P 8 e = some l → P.cellsOf e = l.length → 0 < l.length → (∀ o off len es c, u = .slice o off len es (some c) → len ≤ c) ∧ ∃ rows, Sl (baseW P b0 W) [] l.length u rows ∧ ∀ r, r ∈ rows → r.length = l.length ∧ ∀ (j : Nat) k, l[j]? = some k → ∃ w, r[j]? = some w ∧ GoodW P b0 W d k w

section
variable {X : Type} {enc : TypeId × Value → X} {P : Program} {w : World} {base : Nat} {sp : Nat → Bool} {held : Bool}
end

section
variable {X : Type} {enc : TypeId × Value → X} {P : Program} {W : World} {base b0 : Nat}

theorem row_of {l : List CK} {cs : List Value} {G : CK → AV → Prop} : ∀ (l : List CK) (cs : List Value), cs.length = l.length → (∀ (j : Nat) k, l[j]? = some k → ∃ y, cs[j]? = some y ∧ ∃ u, bavW P b0 k y = some u ∧ G k u) →
    ∃ row : List AV, row.length = l.length ∧ (∀ (j : Nat) k, l[j]? = some k → ∃ w, row[j]? = some w ∧ G k w) ∧ ∀ (j : Nat) u, row[j]? = some u → ∃ k x, l[j]? = some k ∧ cs[j]? = some x ∧ bavW P b0 k x = some u
  | [], cs, _, _ => ⟨[], rfl, fun j k h => by simp at h, fun j u h => by simp at h⟩
  | k :: r, [], h, _ => by simp at h
  | k :: r, c :: cs, h, hg => by
    obtain ⟨row, h1, h2, h3⟩ := row_of (l := l) (cs := cs) (G := G) r cs (by simpa using h) fun j k hj => by
      obtain ⟨y, hy, hc⟩ := hg (j + 1) k (by simpa using hj); exact ⟨y, by simpa using hy, hc⟩
    obtain ⟨y, hy, u, hu, ha⟩ := hg 0 k rfl
    simp at hy; subst hy
    refine ⟨u :: row, by simp [h1], fun j k' hj => ?_, fun j u' hj => ?_⟩
    · cases j with
      | zero => simp at hj; subst hj; exact ⟨u, rfl, ha⟩
      | succ j => simp at hj; simpa using h2 j k' hj
    · cases j with
      | zero => simp at hj; subst hj; exact ⟨k, _, rfl, rfl, hu⟩
      | succ j => simp at hj; simpa using h3 j u' hj
theorem choose_rowsW {l : List CK} {G : CK → AV → Prop} : ∀ (n : Nat) (f : Nat → List Value → Prop), (∀ i, i < n → ∃ cs, f i cs ∧ cs.length = l.length ∧ ∀ (j : Nat) k, l[j]? = some k → ∃ y, cs[j]? = some y ∧ ∃ u, bavW P b0 k y = some u ∧ G k u) →
    ∃ rows : List (List AV), rows.length = n ∧ (∀ r, r ∈ rows → r.length = l.length ∧ ∀ (j : Nat) k, l[j]? = some k → ∃ w, r[j]? = some w ∧ G k w) ∧ ∀ (i : Nat) row, rows[i]? = some row → ∃ cs, f i cs ∧ ∀ (j : Nat) u, row[j]? = some u → ∃ k x, l[j]? = some k ∧ cs[j]? = some x ∧ bavW P b0 k x = some u
  | 0, _, _ => ⟨[], rfl, fun r hr => by simp at hr, fun i row h => by simp at h⟩
  | n + 1, f, h => by
    obtain ⟨rows, h1, h2, h3⟩ := choose_rowsW n f fun i hi => h i (by omega)
    obtain ⟨cs, hf, hc, hc2⟩ := h n (by omega)
    obtain ⟨us, g1, g2, g3⟩ := row_of (l := l) (cs := cs) l cs hc hc2
    refine ⟨rows ++ [us], by simp [h1], fun r hr => ?_, fun i row hi => ?_⟩
    · rcases List.mem_append.1 hr with hr | hr
      · exact h2 r hr
      · rw [List.mem_singleton.1 hr]; exact ⟨g1, g2⟩
    · rcases Nat.lt_or_ge i rows.length with hlt | hge
      · rw [List.getElem?_append_left hlt] at hi; exact h3 i row hi
      · rw [List.getElem?_append_right hge] at hi
        have : i = n := by
          rcases Nat.eq_or_lt_of_le hge with h' | h'
          · omega
          · rw [List.getElem?_eq_none (by simp; omega)] at hi; cases hi
        subst this
        rw [h1, Nat.sub_self] at hi
        simp at hi; subst hi
        exact ⟨cs, hf, g3⟩

theorem GoodW.fl {d : Nat} {t : Ty} {u : AV} (h : avIs t u) : GoodW P b0 W d (.fl t) u := by cases d <;> exact h
theorem GoodW.av {d : Nat} {t : Ty} {u : AV} (h : GoodW P b0 W d (.fl t) u) : avIs t u := by cases d <;> exact h
/-- There is a block at b0. -/
def HasB (W : World) (b0 : Nat) : Prop := ∃ c e f, W.heap[b0]? = some (.cells c e f)
/-- A slice without room is only where there is a block. -/
def ZeroB (W : World) (b0 : Nat) (cs : List Value) : Prop := ∀ a len, Value.slice (some a) len 0 ∈ cs → HasB W b0
theorem ZeroB.sub {cs : List Value} (a b : Nat) (h : ZeroB W b0 cs) : ZeroB W b0 ((cs.drop a).take b) := fun x len hm => h x len (List.mem_of_mem_drop (List.mem_of_mem_take hm))

end

end Go.Am
