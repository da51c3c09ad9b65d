/- The law PickCounts: what Pick picks of such tables. -/
import Derived.Test.YtdgjmffnjkimoaaPc1
namespace Go.Am
open Go

/-! ### Places -/
theorem idxs_filter {p : Tab → Bool} : ∀ (l : List Tab) (k : Nat), idxsFrom p k l = (List.range' k l.length).filter fun i => (l[i - k]?).any p
  | [], k => rfl
  | t :: r, k => by
    have ih := idxs_filter (p := p) r (k + 1)
    simp only [idxsFrom, List.length_cons, List.range'_succ, List.filter_cons, Nat.sub_self, List.getElem?_cons_zero, Option.any_some, ih]
    have e : ((List.range' (k + 1) r.length).filter fun i => (r[i - (k + 1)]?).any p) = (List.range' (k + 1) r.length).filter fun i => ((t :: r)[i - k]?).any p := by
      refine List.filter_congr fun i hi => ?_
      have hi' := (List.mem_range'_1.1 hi).1
      have : i - k = (i - (k + 1)) + 1 := by omega
      rw [this, List.getElem?_cons_succ]
    rw [e]
theorem idxs_range {p : Tab → Bool} (l : List Tab) : idxsFrom p 0 l = (List.range l.length).filter fun i => (l[i]?).any p := by
  rw [idxs_filter, List.range_eq_range']; rfl
theorem idxs_none {p : Tab → Bool} : ∀ (l : List Tab) (k : Nat), (∀ t ∈ l, p t = false) → idxsFrom p k l = []
  | [], _, _ => rfl
  | t :: r, k, h => by
    simp only [idxsFrom, h t (List.mem_cons_self ..)]
    exact idxs_none r (k + 1) fun u hu => h u (List.mem_cons_of_mem _ hu)
theorem idxs_of {lv : Int} : ∀ (l : List Tab) (k : Nat), (idxsFrom (onB lv) k l).length = ofF lv l
  | [], _ => rfl
  | t :: r, k => by
    have ih := idxs_of (lv := lv) r (k + 1)
    simp only [idxsFrom, ofF, onB]
    by_cases h : t.level = lv
    · simp [h, ih]; omega
    · simp [h, ih]
theorem ofF_app {lv : Int} : ∀ (a b : List Tab), ofF lv (a ++ b) = ofF lv a + ofF lv b
  | [], b => by simp [ofF]
  | t :: r, b => by simp only [List.cons_append, ofF, ofF_app r b]; omega
theorem many_iff {all : List Tab} {lv : Nat} : many all lv = true ↔ cap lv < ofF lv all := by
  simp only [many, idxs_of]; simp
/-- The places of a list of places, without doubles, that are all there. -/
theorem filter_self {p : Tab → Bool} (l : List Tab) : ((List.range l.length).filter fun i => decide (i ∈ idxsFrom p 0 l)) = idxsFrom p 0 l := by
  rw [idxs_range]
  refine List.filter_congr fun i hi => ?_
  simp [List.mem_filter, List.mem_range.1 hi]
theorem filter_one {i0 : Nat} : ∀ n, i0 < n → ((List.range n).filter fun i => decide (i ∈ [i0])) = [i0]
  | 0, h => by omega
  | n + 1, h => by
    rw [List.range_succ, List.filter_append]
    by_cases e : i0 = n
    · subst e
      have : ((List.range i0).filter fun i => decide (i ∈ [i0])) = [] := List.filter_eq_nil_iff.2 fun a ha => by
        have := List.mem_range.1 ha
        simp; omega
      rw [this]; simp
    · rw [filter_one n (by omega)]
      have : ¬ n = i0 := fun h => e h.symm
      simp [this]
theorem idxs_lt {p : Tab → Bool} {l : List Tab} {i : Nat} (h : i ∈ idxsFrom p 0 l) : i < l.length := by
  obtain ⟨t, h1, _, _⟩ := idxs_mem h
  rcases Nat.lt_or_ge i l.length with h' | h'
  · exact h'
  · rw [Nat.sub_zero, List.getElem?_eq_none h'] at h1; cases h1

/-- The range's ends are keys of the picked. -/
theorem max_or (a b : List UInt8) : maxStrs a [b] = a ∨ maxStrs a [b] = b := by
  simp only [maxStrs]; split
  · exact .inl rfl
  · exact .inr rfl
theorem rangeF_b {all : List Tab} {P : List UInt8 → Prop} : ∀ (own : List Nat) (a b : List UInt8), P b → (∀ i ∈ own, ∀ t, all[i]? = some t → P t.last) → P (rangeF all own a b).2
  | [], _, _, hb, _ => hb
  | i :: r, a, b, hb, h => by
    simp only [rangeF]
    cases e : all[i]? with
    | none => exact hb
    | some t =>
      refine rangeF_b r _ _ ?_ fun j hj => h j (List.mem_cons_of_mem _ hj)
      rcases max_or b t.last with h1 | h1 <;> rw [h1]
      · exact hb
      · exact h i (List.mem_cons_self ..) t e

/-! ### Such tables -/
theorem ofF_mkL {lv : Int} {l : Nat} : ∀ k, ofF lv (mkL l k) = if (l : Int) = lv then k else 0
  | 0 => by simp [mkL, ofF]
  | k + 1 => by
    rw [mkL_succ, ofF_app, ofF_mkL k]
    simp only [ofF, mkC, tab]
    by_cases h : (l : Int) = lv <;> simp [h]
def allC (a b c d : Nat) : List Tab := mkL 0 a ++ mkL 1 b ++ mkL 2 c ++ mkL 3 d
theorem allC_ok (a b c d : Nat) : ∀ t ∈ allC a b c d, t.Ok := ok_app (ok_app (ok_app (mkL_ok _ _) (mkL_ok _ _)) (mkL_ok _ _)) (mkL_ok _ _)
theorem allC_of {a b c d : Nat} : ofF 0 (allC a b c d) = a ∧ ofF 1 (allC a b c d) = b ∧ ofF 2 (allC a b c d) = c := by
  simp [allC, ofF_app, ofF_mkL]
theorem allC_mem {a b c d : Nat} {t : Tab} (ha : a < 50) (hb : b < 50) (hc : c < 50) (hd : d < 50) (h : t ∈ allC a b c d) : ∃ l i, l < 4 ∧ i < 50 ∧ t = mkC l i := by
  have key : ∀ l k, l < 4 → k < 50 → t ∈ mkL l k → ∃ l i, l < 4 ∧ i < 50 ∧ t = mkC l i := fun l k hl hk h => by
    obtain ⟨i, hi, rfl⟩ := List.mem_map.1 h
    exact ⟨l, i, hl, by have := List.mem_range.1 hi; omega, rfl⟩
  simp only [allC, List.mem_append] at h
  rcases h with ((h | h) | h) | h
  · exact key 0 a (by omega) ha h
  · exact key 1 b (by omega) hb h
  · exact key 2 c (by omega) hc h
  · exact key 3 d (by omega) hd h
theorem key_not {lv : Nat} (hlv : lv < 3) {i j : Nat} : (sLess (keyC (lv + 1) i) (keyC lv j) || keyC (lv + 1) i == keyC lv j) = false := by
  have h3 : lv = 0 ∨ lv = 1 ∨ lv = 2 := by omega
  rw [sLess_total]
  rcases h3 with rfl | rfl | rfl <;> simp [sLess, keyC, Op.bytesLess]

theorem over_none {a b c d lv : Nat} {own : List Nat} {t0 : Tab} (ha : a < 50) (hb : b < 50) (hc : c < 50) (hd : d < 50) (hlv : lv < 3) (h0 : t0 ∈ allC a b c d) (h0l : t0.level = lv) (hown : ∀ i ∈ own, ∀ t, (allC a b c d)[i]? = some t → t.level = lv) : overF (allC a b c d) lv own t0 = [] := by
  have key : ∀ t ∈ allC a b c d, t.level = lv → ∃ j, t.last = keyC lv j := fun t ht hl => by
    obtain ⟨l, j, _, _, rfl⟩ := allC_mem ha hb hc hd ht
    have : l = lv := by
      have : (l : Int) = lv := hl
      omega
    subst this
    exact ⟨j, rfl⟩
  obtain ⟨j, hj⟩ := rangeF_b (all := allC a b c d) (P := fun s => ∃ j, s = keyC lv j) own t0.first t0.last (key t0 h0 h0l) fun i hi t ht => key t (List.mem_of_getElem? ht) (hown i hi t ht)
  refine idxs_none _ _ fun t ht => ?_
  simp only [overB, hj]
  obtain ⟨l, i, hl, _, rfl⟩ := allC_mem ha hb hc hd ht
  by_cases e : l = lv + 1
  · subst e
    have := key_not (i := i) (j := j) hlv
    simp only [mkC, tab, this]; simp
  · have : ((mkC l i).level == (lv : Int) + 1) = false := by simp [mkC, tab]; omega
    rw [this]; rfl

theorem pickAt_C {a b c d lv : Nat} (ha : a < 50) (hb : b < 50) (hc : c < 50) (hd : d < 50) (hlv : lv < 3) (hm : many (allC a b c d) lv = true) : (pickAt (allC a b c d) lv).length = if lv = 0 then a else 1 := by
  obtain ⟨i0, r, he⟩ := many_some (by omega) hm
  have hon : ∀ i ∈ idxsFrom (onB (lv : Int)) 0 (allC a b c d), ∀ t, (allC a b c d)[i]? = some t → t.level = lv := fun i hi t ht => by
    obtain ⟨u, h1, h2, _⟩ := idxs_mem hi
    rw [Nat.sub_zero, ht] at h1
    cases h1
    simpa [onB] using h2
  have hi0 : i0 < (allC a b c d).length := idxs_lt (p := onB (lv : Int)) (by rw [he]; simp)
  have hg : (allC a b c d)[i0]? = some (allC a b c d)[i0] := List.getElem?_eq_getElem hi0
  have hl0 := hon i0 (by rw [he]; simp) _ hg
  have hov : ∀ own, (∀ i ∈ own, i ∈ idxsFrom (onB (lv : Int)) 0 (allC a b c d)) → overF (allC a b c d) lv own (allC a b c d)[i0] = [] := fun own ho =>
    over_none ha hb hc hd hlv (List.getElem_mem hi0) hl0 fun i hi => hon i (ho i hi)
  by_cases h0 : lv = 0
  · subst h0
    have hown : ownF (allC a b c d) 0 = i0 :: r := by unfold ownF; rw [if_pos rfl]; exact he
    simp only [pickAt, hown, hg, if_true]
    rw [hov (i0 :: r) fun i hi => by rw [he]; exact hi, List.append_nil, ← he, filter_self, idxs_of]
    exact allC_of.1
  · have hown : ownF (allC a b c d) lv = [i0] := by unfold ownF; rw [if_neg h0, he]; rfl
    simp only [pickAt, hown, hg, h0, if_false]
    rw [hov [i0] fun i hi => by rw [he]; simp at hi; simp [hi], List.append_nil, filter_one _ hi0]
    rfl

/-- What is picked: nothing, or of the first level that has too many. -/
theorem pick_C {a b c d : Nat} (ha : a < 50) (hb : b < 50) (hc : c < 50) (hd : d < 50) :
    (4 < a ∧ ∃ l, pickL (allC a b c d) [0, 1, 2] = some (0, l) ∧ l.length = a) ∨
    (¬ 4 < a ∧ 8 < b ∧ ∃ l, pickL (allC a b c d) [0, 1, 2] = some (1, l) ∧ l.length = 1) ∨
    (¬ 4 < a ∧ ¬ 8 < b ∧ 32 < c ∧ ∃ l, pickL (allC a b c d) [0, 1, 2] = some (2, l) ∧ l.length = 1) ∨
    (¬ 4 < a ∧ ¬ 8 < b ∧ ¬ 32 < c ∧ pickL (allC a b c d) [0, 1, 2] = none) := by
  obtain ⟨o0, o1, o2⟩ := allC_of (a := a) (b := b) (c := c) (d := d)
  have m0 : many (allC a b c d) 0 = decide (4 < a) := by
    rw [Bool.eq_iff_iff, many_iff]; show (4 : Int) < _ ↔ _; rw [show ((0 : Nat) : Int) = 0 from rfl, o0]; simp; omega
  have m1 : many (allC a b c d) 1 = decide (8 < b) := by
    rw [Bool.eq_iff_iff, many_iff]; show (8 : Int) < _ ↔ _; rw [show ((1 : Nat) : Int) = 1 from rfl, o1]; simp; omega
  have m2 : many (allC a b c d) 2 = decide (32 < c) := by
    rw [Bool.eq_iff_iff, many_iff]; show (32 : Int) < _ ↔ _; rw [show ((2 : Nat) : Int) = 2 from rfl, o2]; simp; omega
  by_cases h0 : 4 < a
  · refine .inl ⟨h0, _, ?_, pickAt_C ha hb hc hd (lv := 0) (by omega) (by simp [m0, h0])⟩
    simp [pickL, m0, h0]
  by_cases h1 : 8 < b
  · refine .inr (.inl ⟨h0, h1, _, ?_, pickAt_C ha hb hc hd (lv := 1) (by omega) (by simp [m1, h1])⟩)
    simp [pickL, m0, m1, h0, h1]
  by_cases h2 : 32 < c
  · refine .inr (.inr (.inl ⟨h0, h1, h2, _, ?_, pickAt_C ha hb hc hd (lv := 2) (by omega) (by simp [m2, h2])⟩))
    simp [pickL, m0, m1, m2, h0, h1, h2]
  · refine .inr (.inr (.inr ⟨h0, h1, h2, ?_⟩))
    simp [pickL, m0, m1, m2, h0, h1, h2]

end Go.Am
