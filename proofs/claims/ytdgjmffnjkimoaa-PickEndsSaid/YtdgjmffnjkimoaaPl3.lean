/- The law PickLess: the score falls; its walk put together. -/
import Derived.Test.YtdgjmffnjkimoaaPl2
namespace Go.Am
open Go

/-! ### What is picked -/
theorem own_some {all : List Tab} {lv : Nat} (hlv : lv ≤ 2) (h : many all lv = true) : ∃ i0 r t0, ownF all lv = i0 :: r ∧ all[i0]? = some t0 ∧ t0.level = lv ∧ (∀ i ∈ i0 :: r, i ∈ idxsFrom (onB (lv : Int)) 0 all) := by
  obtain ⟨i0, r, he⟩ := many_some hlv h
  have hi : i0 ∈ idxsFrom (onB (lv : Int)) 0 all := by rw [he]; simp
  obtain ⟨t0, h1, h2, _⟩ := idxs_mem hi
  rw [Nat.sub_zero] at h1
  have h3 : t0.level = lv := by simpa [onB] using h2
  unfold ownF
  split
  · rename_i e; subst e
    exact ⟨i0, r, t0, he, h1, h3, fun i hi => by rw [he]; exact hi⟩
  · exact ⟨i0, [], t0, by rw [he]; rfl, h1, h3, fun i hi => by rw [he]; simp at hi; simp [hi]⟩
theorem pick_mem {all : List Tab} {lv : Nat} {x : List Nat} (h : pickL all [0, 1, 2] = some (lv, x)) :
    (∀ i ∈ x, ∃ t, all[i]? = some t ∧ (t.level = lv ∨ t.level = lv + 1)) ∧ x.Pairwise (· < ·) ∧ x.length ≤ all.length ∧ ∃ i0 ∈ x, ∃ t0, all[i0]? = some t0 ∧ t0.level = lv := by
  obtain ⟨hlv, hm, _, rfl⟩ := pickL_some h
  refine ⟨?_, ?_, pickAt_len all lv, ?_⟩
  all_goals
    obtain ⟨i0, r, t0, e, h0, hl, hown⟩ := own_some hlv hm
    simp only [pickAt, e, h0]
  · intro i hi
    have hi' := (List.mem_filter.1 hi).2
    simp only [decide_eq_true_eq] at hi'
    rcases List.mem_append.1 hi' with h1 | h1
    · obtain ⟨t, h2, h3, _⟩ := idxs_mem (hown i h1)
      exact ⟨t, by simpa using h2, .inl (by simpa [onB] using h3)⟩
    · obtain ⟨t, h2, h3, _⟩ := idxs_mem h1
      refine ⟨t, by simpa using h2, .inr ?_⟩
      simp only [overB, Bool.and_eq_true, beq_iff_eq] at h3
      exact h3.1
  · exact List.pairwise_lt_range.filter _
  · refine ⟨i0, List.mem_filter.2 ⟨?_, ?_⟩, t0, h0, hl⟩
    · refine List.mem_range.2 ?_
      rcases Nat.lt_or_ge i0 all.length with h' | h'
      · exact h'
      · rw [List.getElem?_eq_none h'] at h0; cases h0
    · simp

/-! ### Sums -/
def sumF (f : Tab → Int) : List Tab → Int
  | [] => 0
  | t :: r => f t + sumF f r
theorem sumF_app {f : Tab → Int} : ∀ a b : List Tab, sumF f (a ++ b) = sumF f a + sumF f b
  | [], b => by simp [sumF]
  | t :: r, b => by simp only [List.cons_append, sumF, sumF_app r b]; omega
def atF (f : Tab → Int) (l : List Tab) (k i : Nat) : Int := match l[i - k]? with
  | some t => f t
  | none => 0
def sumX (f : Tab → Int) (l : List Tab) (k : Nat) : List Nat → Int
  | [] => 0
  | i :: r => atF f l k i + sumX f l k r
theorem behL_nil : ∀ (l : List Tab) (k : Nat), behL [] k l = l
  | [], _ => rfl
  | t :: r, k => by simp [behL, behL_nil r (k + 1)]
theorem behL_congr {x y : List Nat} : ∀ (l : List Tab) (k : Nat), (∀ j, k ≤ j → (j ∈ x ↔ j ∈ y)) → behL x k l = behL y k l
  | [], _, _ => rfl
  | t :: r, k, h => by
    have ih := behL_congr r (k + 1) fun j hj => h j (by omega)
    simp only [behL, ih]
    by_cases hk : k ∈ x
    · rw [if_pos hk, if_pos ((h k (Nat.le_refl _)).1 hk)]
    · rw [if_neg hk, if_neg fun hy => hk ((h k (Nat.le_refl _)).2 hy)]
theorem sumX_shift {f : Tab → Int} {t : Tab} {r : List Tab} {k : Nat} : ∀ x : List Nat, (∀ i ∈ x, k < i) → sumX f (t :: r) k x = sumX f r (k + 1) x
  | [], _ => rfl
  | i :: x, h => by
    have hi := h i (List.mem_cons_self ..)
    simp only [sumX, sumX_shift x fun j hj => h j (List.mem_cons_of_mem _ hj), atF]
    have : i - k = (i - (k + 1)) + 1 := by omega
    rw [this, List.getElem?_cons_succ]
theorem sum_split {f : Tab → Int} : ∀ (l : List Tab) (k : Nat) (x : List Nat), x.Pairwise (· < ·) → (∀ i ∈ x, k ≤ i ∧ i < k + l.length) → sumF f l = sumF f (behL x k l) + sumX f l k x
  | [], k, [], _, _ => rfl
  | [], k, i :: x, _, h => by have := h i (List.mem_cons_self ..); simp at this; omega
  | t :: r, k, [], _, _ => by rw [behL_nil]; simp [sumX]
  | t :: r, k, i :: x, hp, h => by
    obtain ⟨hp1, hp2⟩ := List.pairwise_cons.1 hp
    have hi := h i (List.mem_cons_self ..)
    simp only [List.length_cons] at hi
    by_cases e : i = k
    · subst e
      have ih := sum_split (f := f) r (i + 1) x hp2 fun j hj => by
        have h1 := h j (List.mem_cons_of_mem _ hj)
        have h2 := hp1 j hj
        simp only [List.length_cons] at h1
        omega
      have hb : behL (i :: x) i (t :: r) = behL x (i + 1) r := by
        simp only [behL, List.mem_cons_self, if_true]
        exact behL_congr r (i + 1) fun j hj => by simp; omega
      rw [hb]
      simp only [sumF, sumX, sumX_shift x hp1, ih, atF, Nat.sub_self, List.getElem?_cons_zero]
      omega
    · have hk : k ∉ i :: x := fun hm => by
        rcases List.mem_cons.1 hm with h1 | h1
        · exact e h1.symm
        · have := hp1 k h1; omega
      have hall : ∀ j ∈ i :: x, k < j := fun j hj => by
        rcases List.mem_cons.1 hj with rfl | h1
        · omega
        · have := hp1 j h1; omega
      have ih := sum_split (f := f) r (k + 1) (i :: x) hp fun j hj => by
        have h1 := h j hj
        have h2 := hall j hj
        simp only [List.length_cons] at h1
        omega
      have hb : behL (i :: x) k (t :: r) = t :: behL (i :: x) (k + 1) r := by
        rw [behL, if_neg hk]
      rw [hb, sumX_shift _ hall]
      simp only [sumF, ih]; omega

/-! ### The score -/
def wt (t : Tab) : Int := t.count * below t.level
theorem below_b (lv : Int) : 0 ≤ below lv ∧ below lv ≤ 3 := by unfold below; split <;> omega
theorem wt_b {t : Tab} {m : Int} (h : 0 ≤ t.count ∧ t.count ≤ m) : 0 ≤ wt t ∧ wt t ≤ m * 3 := by
  obtain ⟨h1, h2⟩ := below_b t.level
  refine ⟨Int.mul_nonneg h.1 h1, ?_⟩
  exact Int.mul_le_mul h.2 h2 h1 (by omega)
theorem score_plain {m : Int} (hm0 : 0 ≤ m) (hm : m ≤ 1000000) : ∀ (l : List Tab) (a : Int), (∀ t ∈ l, 0 ≤ t.count ∧ t.count ≤ m) → 0 ≤ a → a + m * 3 * l.length ≤ 9007199254740992 → scoreF a l = a + sumF wt l
  | [], a, _, _, _ => by simp [scoreF, sumF]
  | t :: r, a, h, ha, hb => by
    obtain ⟨h1, h2⟩ := wt_b (h t (List.mem_cons_self ..))
    have e : m * 3 * ((t :: r).length : Int) = m * 3 * (r.length : Int) + m * 3 := by
      rw [List.length_cons, Int.natCast_add, Int.mul_add]; simp
    have hnn : 0 ≤ m * 3 * (r.length : Int) := Int.mul_nonneg (by omega) (by omega)
    have ew : weight t = wt t := w64 (n := t.count * below t.level) (by
      show _ ≤ wt t ∧ wt t ≤ _
      omega)
    have ih := score_plain hm0 hm r (a + wt t) (fun u hu => h u (List.mem_cons_of_mem _ hu)) (by omega) (by omega)
    simp only [scoreF, ew, sumF]
    rw [w64 (n := a + wt t) (by omega), ih]; omega

theorem below_0 {lv : Nat} (hlv : lv ≤ 2) : below (lv : Int) = 3 - (lv : Int) := by
  unfold below; rw [if_neg (by omega)]
theorem below_1 {lv : Nat} (hlv : lv ≤ 2) : below ((lv : Int) + 1) = 2 - (lv : Int) := by
  unfold below; rw [if_neg (by omega)]; omega

theorem made_wt {lv : Nat} (hlv : lv ≤ 2) : ∀ (cs : List Int) (i : Nat) (room : Int), 0 ≤ room → sumF wt (madeL ((lv : Int) + 1) i room cs) ≤ (2 - (lv : Int)) * room
  | [], _, room, h => by
    simp only [madeL, sumF]; exact Int.mul_nonneg (by omega) h
  | c :: r, i, room, h => by
    simp only [madeL]
    split
    · rename_i h1
      obtain ⟨h2, h3⟩ := tmod_room c h1.2
      generalize Int.tmod (bitsOp .and IntKind.i64 c 65535) room = m at *
      have ih := made_wt hlv r (i + 1) (room - (1 + m)) (by omega)
      have e : wt (tab ((lv : Int) + 1) (1 + m) [] []) = (2 - (lv : Int)) * (1 + m) := by
        show (1 + m) * below ((lv : Int) + 1) = _
        rw [below_1 hlv, Int.mul_comm]
      simp only [sumF, e]
      have e2 : (2 - (lv : Int)) * room = (2 - (lv : Int)) * (1 + m) + (2 - (lv : Int)) * (room - (1 + m)) := by
        rw [← Int.mul_add]; congr 1; omega
      omega
    · simp only [sumF]; exact Int.mul_nonneg (by omega) h
theorem made_cnt {to : Int} : ∀ (cs : List Int) (i : Nat) (room : Int), room ≤ 100000 → ∀ t ∈ madeL to i room cs, 0 ≤ t.count ∧ t.count ≤ 100000
  | [], _, _, _, t, ht => by simp [madeL] at ht
  | c :: r, i, room, hr, t, ht => by
    simp only [madeL] at ht
    split at ht
    · rename_i h1
      obtain ⟨h2, h3⟩ := tmod_room c h1.2
      rcases List.mem_cons.1 ht with rfl | ht
      · simp only [tab]; omega
      · exact made_cnt r _ _ (by omega) t ht
    · simp at ht

theorem picked_wt {l : List Tab} {lv : Nat} (hlv : lv ≤ 2) (hc : ∀ t ∈ l, 1 ≤ t.count ∧ t.count ≤ 64) : ∀ x : List Nat, (∀ i ∈ x, ∃ t, l[i]? = some t ∧ (t.level = lv ∨ t.level = lv + 1)) →
    sumX wt l 0 x ≥ (2 - (lv : Int)) * roomF l x + upsF l lv x ∧ 0 ≤ roomF l x ∧ roomF l x ≤ 64 * x.length
  | [], _ => by simp [sumX, roomF, upsF]
  | i :: r, h => by
    obtain ⟨ih, ih2, ih3⟩ := picked_wt hlv hc r fun j hj => h j (List.mem_cons_of_mem _ hj)
    obtain ⟨t, ht, hl⟩ := h i (List.mem_cons_self ..)
    have hct := hc t (List.mem_of_getElem? ht)
    simp only [sumX, roomF, upsF, atF, cntOf, isOf, Nat.sub_zero, ht, List.length_cons]
    refine ⟨?_, by omega, by omega⟩
    rw [Int.mul_add]
    rcases hl with hl | hl
    · have e : wt t = (2 - (lv : Int)) * t.count + t.count := by
        simp only [wt, hl]
        rw [below_0 hlv]
        have : (3 : Int) - lv = (2 - lv) + 1 := by omega
        rw [this, Int.mul_add, Int.mul_comm t.count (2 - (lv : Int))]; omega
      simp only [hl, beq_self_eq_true, if_true]
      omega
    · have e : wt t = (2 - (lv : Int)) * t.count := by
        simp only [wt, hl]
        rw [below_1 hlv, Int.mul_comm]
      have : (t.level == (lv : Int)) = false := by rw [hl]; simp; omega
      simp only [this]
      simp only [Bool.false_eq_true, if_false]
      omega
theorem ups_pos {l : List Tab} {lv : Nat} {i0 : Nat} {t0 : Tab} (h0 : l[i0]? = some t0) (hl : t0.level = lv) : ∀ x : List Nat, i0 ∈ x → 1 ≤ upsF l lv x
  | [], h => by simp at h
  | i :: r, h => by
    simp only [upsF]
    rcases List.mem_cons.1 h with rfl | h
    · simp only [isOf, h0, hl, beq_self_eq_true, if_true]; omega
    · have := ups_pos h0 hl r h; omega

theorem score_falls {l : List Tab} {lv : Nat} {x : List Nat} {cs : List Int} (hp : pickL l [0, 1, 2] = some (lv, x)) (hsz : l.length ≤ 600) (hc : ∀ t ∈ l, 1 ≤ t.count ∧ t.count ≤ 64) :
    scoreF 0 (behL x 0 l ++ madeL ((lv : Int) + 1) 0 (roomF l x) cs) < scoreF 0 l ∧ 1 ≤ upsF l lv x := by
  obtain ⟨h1, h2, h3, i0, h4, t0, h5, h6⟩ := pick_mem hp
  obtain ⟨hlv, _, _, _⟩ := pickL_some hp
  obtain ⟨g1, g2, g3⟩ := picked_wt hlv hc x h1
  have hu := ups_pos h5 h6 x h4
  have hin : ∀ i ∈ x, 0 ≤ i ∧ i < 0 + l.length := fun i hi => by
    obtain ⟨t, ht, _⟩ := h1 i hi
    rcases Nat.lt_or_ge i l.length with h' | h'
    · omega
    · rw [List.getElem?_eq_none h'] at ht; cases ht
  have hs := sum_split (f := wt) l 0 x h2 hin
  have hmw := made_wt hlv cs 0 (roomF l x) g2
  have hbl := behL_len (x := x) l 0
  have hml := madeL_len (to := (lv : Int) + 1) cs 0 (roomF l x) (by omega)
  have hbm : ∀ t ∈ behL x 0 l, t ∈ l := by
    have : ∀ (l : List Tab) (k : Nat), ∀ t ∈ behL x k l, t ∈ l := fun l => by
      induction l with
      | nil => intro k t ht; simp [behL] at ht
      | cons u r ih =>
        intro k t ht
        simp only [behL] at ht
        split at ht
        · exact List.mem_cons_of_mem _ (ih _ t ht)
        · rcases List.mem_cons.1 ht with rfl | ht
          · exact List.mem_cons_self ..
          · exact List.mem_cons_of_mem _ (ih _ t ht)
    exact this l 0
  rw [score_plain (m := 64) (by omega) (by omega) l 0 (fun t ht => by have := hc t ht; omega) (by omega) (by omega),
    score_plain (m := 100000) (by omega) (by omega) _ 0 (fun t ht => by
      rcases List.mem_append.1 ht with ht | ht
      · have := hc t (hbm t ht); omega
      · exact made_cnt cs 0 (roomF l x) (by omega) t ht) (by omega) (by simp; omega), sumF_app, hs]
  exact ⟨by omega, hu⟩

theorem rightL_cnt {lv : Int} : ∀ {l : List Tab} {t : Tab}, t ∈ rightL lv l → 1 ≤ t.count ∧ t.count ≤ 64
  | [], t, h => by simp [rightL] at h
  | u :: r, t, h => by
    simp only [rightL] at h
    split at h
    · rcases List.mem_cons.1 h with rfl | h
      · have h : ∃ j : Nat, bitsOp .and IntKind.i64 u.count 63 = j ∧ j ≤ 63 := by
          have hle : (BitVec.ofInt 64 u.count &&& BitVec.ofInt 64 63).toNat ≤ 63 := by
            rw [BitVec.toNat_and]
            exact Nat.and_le_right
          refine ⟨(BitVec.ofInt 64 u.count &&& BitVec.ofInt 64 63).toNat, ?_, hle⟩
          show IntKind.i64.wrap ((BitVec.ofInt 64 u.count &&& BitVec.ofInt 64 63).toNat : Int) = _
          exact w64 (by omega)
        obtain ⟨j, hj, hj2⟩ := h
        simp only [fixT, hj]
        rw [w64 (n := 1 + (j : Int)) (by omega)]; omega
      · exact rightL_cnt h
    · exact rightL_cnt h
theorem rightF_cnt {all : List Tab} : ∀ t ∈ rightF all, 1 ≤ t.count ∧ t.count ≤ 64 := fun t ht => by
  simp only [rightF, List.mem_append] at ht
  rcases ht with ((h | h) | h) | h <;> exact rightL_cnt h

end Go.Am
