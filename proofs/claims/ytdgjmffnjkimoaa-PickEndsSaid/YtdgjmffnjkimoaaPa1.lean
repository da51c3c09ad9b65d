/- What Pick picks: of which level, and that deeper tables do not matter. -/
import Derived.Test.YtdgjmffnjkimoaaPc2
namespace Go.Am
open Go

theorem pickL_some {all : List Tab} {lv : Nat} {l : List Nat} (h : pickL all [0, 1, 2] = some (lv, l)) : lv ≤ 2 ∧ many all lv = true ∧ (∀ j, j < lv → many all j = false) ∧ l = pickAt all lv := by
  simp only [pickL] at h
  by_cases m0 : many all 0 = true
  · rw [if_pos m0] at h; cases h
    exact ⟨by omega, m0, fun j hj => by omega, rfl⟩
  rw [if_neg m0] at h
  have f0 : many all 0 = false := by simpa using m0
  by_cases m1 : many all 1 = true
  · rw [if_pos m1] at h; cases h
    exact ⟨by omega, m1, fun j hj => by have : j = 0 := by omega
                                        subst this; exact f0, rfl⟩
  rw [if_neg m1] at h
  have f1 : many all 1 = false := by simpa using m1
  by_cases m2 : many all 2 = true
  · rw [if_pos m2] at h; cases h
    refine ⟨by omega, m2, fun j hj => ?_, rfl⟩
    have : j = 0 ∨ j = 1 := by omega
    rcases this with rfl | rfl
    · exact f0
    · exact f1
  · rw [if_neg m2] at h; cases h
theorem pickL_of {all : List Tab} {lv : Nat} (hlv : lv ≤ 2) (h : many all lv = true) (h' : ∀ j, j < lv → many all j = false) : pickL all [0, 1, 2] = some (lv, pickAt all lv) := by
  have : lv = 0 ∨ lv = 1 ∨ lv = 2 := by omega
  rcases this with rfl | rfl | rfl
  · simp [pickL, h]
  · simp [pickL, h, h' 0 (by omega)]
  · simp [pickL, h, h' 0 (by omega), h' 1 (by omega)]
theorem pickL_none {all : List Tab} : pickL all [0, 1, 2] = none ↔ ∀ j, j ≤ 2 → many all j = false := by
  constructor
  · intro h j hj
    have : j = 0 ∨ j = 1 ∨ j = 2 := by omega
    simp only [pickL] at h
    split at h
    · cases h
    split at h
    · cases h
    split at h
    · cases h
    rename_i a b c
    rcases this with rfl | rfl | rfl
    · simpa using a
    · simpa using b
    · simpa using c
  · intro h
    simp [pickL, h 0 (by omega), h 1 (by omega), h 2 (by omega)]
theorem many_not {all : List Tab} {lv : Nat} : many all lv = false ↔ (ofF lv all : Int) ≤ cap lv := by
  rw [← Bool.not_eq_true, many_iff]; omega

/-! ### Levels in order -/
def Asc (l : List Tab) : Prop := l.Pairwise fun a b => a.level ≤ b.level
theorem rightL_level {lv : Int} : ∀ {l : List Tab} {t : Tab}, t ∈ rightL lv l → t.level = lv
  | [], t, h => by simp [rightL] at h
  | u :: r, t, h => by
    simp only [rightL] at h
    split at h
    · rcases List.mem_cons.1 h with rfl | h
      · rfl
      · exact rightL_level h
    · exact rightL_level h
theorem asc_level {lv : Int} {l : List Tab} (h : ∀ t ∈ l, t.level = lv) : Asc l := by
  refine List.pairwise_of_forall_mem_list fun a ha b hb => ?_
  rw [h a ha, h b hb]; exact Int.le_refl _
theorem rightF_asc (all : List Tab) : Asc (rightF all) := by
  have l := fun lv => @rightL_level lv (all.take 150)
  have p := fun lv => asc_level (lv := lv) (l := rightL lv (all.take 150)) fun t ht => l lv ht
  unfold rightF Asc
  rw [List.pairwise_append, List.pairwise_append, List.pairwise_append]
  refine ⟨⟨⟨p 0, p 1, fun a ha b hb => ?_⟩, p 2, fun a ha b hb => ?_⟩, p 3, fun a ha b hb => ?_⟩
  · rw [l _ ha, l _ hb]; decide
  · rcases List.mem_append.1 ha with ha | ha <;> rw [l _ ha, l _ hb] <;> decide
  · simp only [List.mem_append] at ha
    rcases ha with (ha | ha) | ha <;> rw [l _ ha, l _ hb] <;> decide
theorem rightF_ok {all : List Tab} (h : ∀ t ∈ all, t.Ok) : ∀ t ∈ rightF all, t.Ok := by
  have h' : ∀ t ∈ all.take 150, t.Ok := fun t ht => h t (List.mem_of_mem_take ht)
  exact ok_app (ok_app (ok_app (rightL_ok h') (rightL_ok h')) (rightL_ok h')) (rightL_ok h')
theorem rightF_len (all : List Tab) : (rightF all).length ≤ 600 := by
  have l := fun lv => rightL_len lv (all.take 150)
  have := l 0
  have := l 1
  have := l 2
  have := l 3
  simp only [List.length_take] at *
  simp only [rightF, List.length_append]; omega

def upF (to : Int) (l : List Tab) : List Tab := l.filter fun t => decide (t.level ≤ to)
theorem asc_split {to : Int} : ∀ {l : List Tab}, Asc l → ∃ rest, l = upF to l ++ rest ∧ ∀ t ∈ rest, to < t.level
  | [], _ => ⟨[], rfl, fun t ht => by simp at ht⟩
  | t :: r, h => by
    obtain ⟨h1, h2⟩ := List.pairwise_cons.1 h
    by_cases ht : t.level ≤ to
    · obtain ⟨rest, e, hr⟩ := asc_split h2
      refine ⟨rest, ?_, hr⟩
      have : upF to (t :: r) = t :: upF to r := by simp [upF, ht]
      rw [this, List.cons_append, ← e]
    · refine ⟨t :: r, ?_, fun u hu => ?_⟩
      · have : upF to (t :: r) = [] := by
          refine List.filter_eq_nil_iff.2 fun u hu => ?_
          rcases List.mem_cons.1 hu with rfl | hu
          · simpa using ht
          · have := h1 u hu; simp; omega
        rw [this]; rfl
      · rcases List.mem_cons.1 hu with rfl | hu
        · omega
        · have := h1 u hu; omega

/-! ### Deeper tables do not matter -/
theorem idxs_app {p : Tab → Bool} : ∀ (a b : List Tab) (k : Nat), idxsFrom p k (a ++ b) = idxsFrom p k a ++ idxsFrom p (k + a.length) b
  | [], b, k => rfl
  | t :: r, b, k => by
    have ih := idxs_app (p := p) r b (k + 1)
    have e : k + 1 + r.length = k + (t :: r).length := by simp; omega
    rw [e] at ih
    simp only [List.cons_append, idxsFrom, ih]
    split <;> simp
theorem idxs_deep {p : Tab → Bool} {a b : List Tab} (h : ∀ t ∈ b, p t = false) : idxsFrom p 0 (a ++ b) = idxsFrom p 0 a := by
  rw [idxs_app, idxs_none b _ h, List.append_nil]
theorem rangeF_deep {a b : List Tab} : ∀ (own : List Nat) (x y : List UInt8), (∀ i ∈ own, i < a.length) → rangeF (a ++ b) own x y = rangeF a own x y
  | [], _, _, _ => rfl
  | i :: r, x, y, h => by
    have hi := h i (List.mem_cons_self ..)
    simp only [rangeF, List.getElem?_append_left hi, List.getElem?_eq_getElem hi]
    exact rangeF_deep r _ _ fun j hj => h j (List.mem_cons_of_mem _ hj)
theorem range_deep {m n : Nat} {P : Nat → Bool} (h : ∀ i, m ≤ i → P i = false) : (List.range (m + n)).filter P = (List.range m).filter P := by
  rw [List.range_eq_range', List.range_eq_range', ← List.range'_append_1, List.filter_append]
  have : (List.range' (0 + m) n).filter P = [] := List.filter_eq_nil_iff.2 fun i hi => by
    have := (List.mem_range'_1.1 hi).1
    rw [h i (by omega)]; simp
  rw [this, List.append_nil]
theorem many_deep {a b : List Tab} {lv : Nat} (h : ∀ t ∈ b, (lv : Int) < t.level) : many (a ++ b) lv = many a lv := by
  unfold many
  rw [idxs_deep fun t ht => by have := h t ht; simp [onB]; omega]
theorem pickAt_deep {a b : List Tab} {lv : Nat} (h : ∀ t ∈ b, (lv : Int) + 1 < t.level) : pickAt (a ++ b) lv = pickAt a lv := by
  have how : ownF (a ++ b) lv = ownF a lv := by
    unfold ownF
    rw [idxs_deep fun t ht => by have := h t ht; simp [onB]; omega]
  have hin : ∀ i ∈ ownF a lv, i < a.length := fun i hi => by
    unfold ownF at hi
    split at hi
    · exact idxs_lt hi
    · exact idxs_lt (List.mem_of_mem_take hi)
  unfold pickAt
  rw [how]
  revert hin
  generalize ownF a lv = own
  intro hin
  match own, hin with
  | [], _ => rfl
  | i0 :: r, hin =>
    have h0 := hin i0 (List.mem_cons_self ..)
    simp only [List.getElem?_append_left h0, List.getElem?_eq_getElem h0]
    have hov : overF (a ++ b) lv (i0 :: r) a[i0] = overF a lv (i0 :: r) a[i0] := by
      unfold overF
      rw [rangeF_deep _ _ _ hin, idxs_deep fun t ht => by
        have := h t ht
        have e : (t.level == (lv : Int) + 1) = false := by simp; omega
        simp [overB, e]]
    rw [hov, List.length_append]
    refine range_deep fun i hi => ?_
    simp only [decide_eq_false_iff_not, List.mem_append, not_or]
    refine ⟨fun hm => ?_, fun hm => ?_⟩
    · have := hin i hm; omega
    · have := idxs_lt hm; omega

theorem pick_upper {l : List Tab} {lv : Nat} {x : List Nat} (ha : Asc l) (h : pickL l [0, 1, 2] = some (lv, x)) : pickL (upF ((lv : Int) + 1) l) [0, 1, 2] = some (lv, x) := by
  obtain ⟨h1, h2, h3, rfl⟩ := pickL_some h
  obtain ⟨rest, e, hr⟩ := asc_split (to := (lv : Int) + 1) ha
  generalize upF ((lv : Int) + 1) l = up at *
  subst e
  rw [pickAt_deep hr]
  refine pickL_of h1 ?_ fun j hj => ?_
  · rw [many_deep fun t ht => by have := hr t ht; omega] at h2; exact h2
  · have := h3 j hj
    rw [many_deep fun t ht => by have := hr t ht; omega] at this; exact this

theorem pick_less {l : List Tab} {k : Nat} (h : pickL l [0, 1, 2] = none) : pickL (l.take k ++ l.drop (k + 1)) [0, 1, 2] = none := by
  rw [pickL_none] at h ⊢
  intro j hj
  have := h j hj
  rw [many_not] at this ⊢
  have e : ofF (j : Int) (l.take k ++ l.drop (k + 1)) ≤ ofF (j : Int) l := by
    have e1 : ofF (j : Int) l = ofF (j : Int) (l.take k) + ofF (j : Int) (l.drop k) := by rw [← ofF_app, List.take_append_drop]
    have e2 : l.drop (k + 1) = (l.drop k).drop 1 := by rw [List.drop_drop]
    rw [ofF_app, e1, e2]
    match l.drop k with
    | [] => simp
    | t :: r => simp [ofF]
  omega

end Go.Am
