/- Helpers for the laws: memory that is tidied to a choice of its objects; a row that was just built. -/
import Derived.Test.YtdgjmffnjkimoaaPkA
namespace Go.Am
open Go

section
variable {n : Nat} {H L : Heap} {o o1 o2 o3 : AObj} {a b c : Nat}

theorem pick_n1 {g : Nat → Nat} : pick n g (n + 1) = n + g 1 := pick_at 1
theorem pick_n2 {g : Nat → Nat} : pick n g (n + 2) = n + g 2 := pick_at 2

theorem sel1 (hn : n = H.length) (hH : LowH n H) (ha : L[a]? = some o) (hf : flatO o) : Cln n (pick n fun _ => a) (H ++ L) (H ++ [o]) := by
  refine Cln.pick hn hH _ ?_ ?_
  · intro j k hj hk _; simp at hj hk; omega
  · intro j x hj
    match j with
    | 0 => simp at hj; subst hj; exact .inr ⟨ha, hf⟩
    | j + 1 => simp at hj
theorem sel2 (hn : n = H.length) (hH : LowH n H) (ha : L[a]? = some o1) (h1 : flatO o1) (hb : L[b]? = some o2) (h2 : flatO o2) (hab : a ≠ b) :
    Cln n (pick n fun j => if j = 0 then a else b) (H ++ L) (H ++ [o1, o2]) := by
  refine Cln.pick hn hH _ ?_ ?_
  · intro j k hj hk e
    simp at hj hk
    have hj' : j = 0 ∨ j = 1 := by omega
    have hk' : k = 0 ∨ k = 1 := by omega
    rcases hj' with rfl | rfl <;> rcases hk' with rfl | rfl <;> simp at e ⊢ <;> omega
  · intro j x hj
    match j with
    | 0 => simp at hj; subst hj; exact .inr ⟨ha, h1⟩
    | 1 => simp at hj; subst hj; exact .inr ⟨hb, h2⟩
    | j + 2 => simp at hj
theorem sel3 (hn : n = H.length) (hH : LowH n H) (ha : L[a]? = some o1) (h1 : flatO o1) (hb : L[b]? = some o2) (h2 : flatO o2) (hc : L[c]? = some o3) (h3 : flatO o3) (hab : a ≠ b) (hac : a ≠ c) (hbc : b ≠ c) :
    Cln n (pick n fun j => if j = 0 then a else if j = 1 then b else c) (H ++ L) (H ++ [o1, o2, o3]) := by
  refine Cln.pick hn hH _ ?_ ?_
  · intro j k hj hk e
    simp at hj hk
    have hj' : j = 0 ∨ j = 1 ∨ j = 2 := by omega
    have hk' : k = 0 ∨ k = 1 ∨ k = 2 := by omega
    rcases hj' with rfl | rfl | rfl <;> rcases hk' with rfl | rfl | rfl <;> simp at e ⊢ <;> omega
  · intro j x hj
    match j with
    | 0 => simp at hj; subst hj; exact .inr ⟨ha, h1⟩
    | 1 => simp at hj; subst hj; exact .inr ⟨hb, h2⟩
    | 2 => simp at hj; subst hj; exact .inr ⟨hc, h3⟩
    | j + 3 => simp at hj

theorem low_pick {g : Nat → Nat} {m : Nat} {v : AV} (hm : n ≤ m) (h : Low n v) : RV (pick n g) m v v := Low.rv (fun _ hk => pick_low hk) hm v h
end

/-! ### Numbers compared -/
section
variable {k : IntKind} {a b : Int} {K : AV → Prop}
theorem ib_eq_yes (h : a = b) (hk : K (.bool true)) : ibinK .eql k a b K := by
  show bs (a == b) _ _
  rw [beq_iff_eq.2 h]; exact hk
theorem ib_eq_no (h : a ≠ b) (hk : K (.bool false)) : ibinK .eql k a b K := by
  show bs (a == b) _ _
  rw [beq_eq_false_iff_ne.2 h]; exact hk
theorem ib_ne_yes (h : a ≠ b) (hk : K (.bool true)) : ibinK .neq k a b K := by
  show bs (a != b) _ _
  rw [bne_iff_ne.2 h]; exact hk
theorem ib_ne_no (h : a = b) (hk : K (.bool false)) : ibinK .neq k a b K := by
  show bs (a != b) _ _
  subst h; simpa using hk
theorem ib_eq (h : K (.bool (decide (a = b)))) : ibinK .eql k a b K := by
  by_cases e : a = b
  · exact ib_eq_yes e (by simpa [e] using h)
  · exact ib_eq_no e (by simpa [e] using h)
theorem ib_le (h : K (.bool (decide (a ≤ b)))) : ibinK .leq k a b K := by
  show bs _ _ _
  revert h; generalize decide (a ≤ b) = c; cases c <;> exact id
theorem ib_lt (h : K (.bool (decide (a < b)))) : ibinK .lss k a b K := by
  show bs _ _ _
  revert h; generalize decide (a < b) = c; cases c <;> exact id
theorem ib_ge (h : K (.bool (decide (a ≥ b)))) : ibinK .geq k a b K := by
  show bs _ _ _
  revert h; generalize decide (a ≥ b) = c; cases c <;> exact id
theorem ib_gt (h : K (.bool (decide (a > b)))) : ibinK .gtr k a b K := by
  show bs _ _ _
  revert h; generalize decide (a > b) = c; cases c <;> exact id
theorem bs_of {c : Bool} {x y : Prop} (d : Bool) (h : c = d) (hx : d = true → x) (hy : d = false → y) : bs c x y := by
  subst h; cases c
  · exact hy rfl
  · exact hx rfl
theorem ib_lt_no (h : ¬ a < b) (hk : K (.bool false)) : ibinK .lss k a b K := ib_lt (by rw [decide_eq_false h]; exact hk)
theorem ib_lt_yes (h : a < b) (hk : K (.bool true)) : ibinK .lss k a b K := ib_lt (by rw [decide_eq_true h]; exact hk)
theorem ib_ge_no (h : ¬ a ≥ b) (hk : K (.bool false)) : ibinK .geq k a b K := ib_ge (by rw [decide_eq_false h]; exact hk)
theorem ib_ge_yes (h : a ≥ b) (hk : K (.bool true)) : ibinK .geq k a b K := ib_ge (by rw [decide_eq_true h]; exact hk)
theorem ib_gt_no (h : ¬ a > b) (hk : K (.bool false)) : ibinK .gtr k a b K := ib_gt (by rw [decide_eq_false h]; exact hk)
theorem ib_gt_yes (h : a > b) (hk : K (.bool true)) : ibinK .gtr k a b K := ib_gt (by rw [decide_eq_true h]; exact hk)
theorem ib_le_no (h : ¬ a ≤ b) (hk : K (.bool false)) : ibinK .leq k a b K := ib_le (by rw [decide_eq_false h]; exact hk)
theorem ib_le_yes (h : a ≤ b) (hk : K (.bool true)) : ibinK .leq k a b K := ib_le (by rw [decide_eq_true h]; exact hk)
end

/-! ### A slice that is written -/
theorem op_st_arr {B : Base} {H : Heap} {K : AV → Heap → Prop} {n k i : Nat} {v : AV} {c vs : List AV} (hv : v.cells? = some vs) (hn : vs.length = n) (hg : H[k]? = some (.arr c)) (hl : i + n ≤ c.length) (hk : K .dead (H.set k (.arr (putAt c i vs)))) : aop B E0 H K (.st n (.const (.ptr (some (.new k, i)))) (.const v)) := by
  subst hn
  simp only [aop, opK, Opd.look, ob_some, hv, if_true, poke, pokeAt, hg, if_pos hl]
  exact hk
theorem op_make {B : Base} {H : Heap} {K : AV → Heap → Prop} {es bytes m : Nat} {z : List AV} {a : Int} (ha : a = (m : Int)) (hb : (m : Int) * bytes ≤ maxBytes) (hm : (m : Int) ≤ maxInt) (hk : K (.slice (.new H.length) 0 m es (some m)) (H ++ [.arr (List.replicate m z).flatten])) :
    aop B E0 H K (.makeSlice es bytes z (.const (.int .i64 a)) (.const (.int .i64 a))) := by
  subst ha
  simp only [aop, opK, Opd.look, ob_some, pAny_int]
  rw [if_pos ⟨by omega, by omega, by simpa using hb, by simpa using hm⟩]
  exact hk

/-- A row that was just built. -/
theorem sl_row1 {B : Base} {G : Heap} {es : Nat} {row : List AV} (h : row.length = es) : Sl B (G ++ [.arr row]) es (.slice (.new G.length) 0 1 es (some 1)) [row] :=
  ⟨fun r hr => by rw [List.mem_singleton.1 hr]; exact h, .inr ⟨_, _, _, rfl, cellsAt_iff'.2 ⟨row, by simp only [cellsOf, get_app0]; rfl, by simp [h], by simp [← h]⟩⟩⟩
theorem sl_rows {B : Base} {G : Heap} {es k cap : Nat} {rows : List (List AV)} {c : List AV} (hk : k = rows.length) (hc : c = rows.flatten) (h : ∀ r, r ∈ rows → r.length = es) : Sl B (G ++ [.arr c]) es (.slice (.new G.length) 0 k es (some cap)) rows := by
  subst hk hc
  exact ⟨h, .inr ⟨_, _, _, rfl, cellsAt_iff'.2 ⟨rows.flatten, by simp only [cellsOf, get_app0]; rfl, by rw [flatten_len h]; omega, by rw [List.drop_zero, ← flatten_len h, List.take_length]⟩⟩⟩

end Go.Am
