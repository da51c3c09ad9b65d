/- More laws of the abstract machine, for those who walk: slices that grow, choices of memory, tests. -/
import Derived.Test.YtonfcbadaebjnaaAmS
namespace Go.Am
open Go

theorem slK_in {H : Heap} {es len : Nat} {c : List AV} {K : AV → Heap → Prop} (h : K (.slice (.new H.length) 0 len es (some len)) (H ++ [.arr c])) : slK H es len c K := h

theorem drop_cons {α : Type} {all r : List α} {i : Nat} {t : α} (h : all.drop i = t :: r) : all[i]? = some t ∧ i < all.length ∧ all.drop (i + 1) = r := by
  have h1 : all[i]? = some t := by
    have : (all.drop i)[0]? = some t := by rw [h]; rfl
    simpa using this
  refine ⟨h1, ?_, ?_⟩
  · rcases Nat.lt_or_ge i all.length with h' | h'
    · exact h'
    · rw [List.getElem?_eq_none h'] at h1; cases h1
  · rw [← List.drop_drop, h]; rfl

theorem drop_nil {α : Type} {all : List α} {i : Nat} (h : all.drop i = []) : all.length ≤ i := by
  have : (all.drop i).length = 0 := by rw [h]; rfl
  simp at this; omega

theorem bs_dec {p : Prop} [inst : Decidable p] {x y : Prop} (h1 : p → x) (h2 : ¬ p → y) : bs (decide p) x y := bs_iff.2 ⟨fun h => h1 (of_decide_eq_true h), fun h => h2 (of_decide_eq_false h)⟩

section
variable {n : Nat} {H L : Heap} {o o1 o2 o3 : AObj} {a b c : Nat}

end

/-! ### Numbers compared -/
section
variable {k : IntKind} {a b : Int} {K : AV → Prop}
theorem ib_eq_yes (h : a = b) (hk : K (.bool true)) : ibinK .eql k a b K := by
  show bs (a == b) _ _
  rw [beq_iff_eq.2 h]; exact hk
theorem ib_eq_no (h : a ≠ b) (hk : K (.bool false)) : ibinK .eql k a b K := by
  show bs (a == b) _ _
  rw [beq_eq_false_iff_ne.2 h]; exact hk
theorem ib_ne_no (h : a = b) (hk : K (.bool false)) : ibinK .neq k a b K := by
  show bs (a != b) _ _
  subst h; simpa using hk
theorem ib_le (h : K (.bool (decide (a ≤ b)))) : ibinK .leq k a b K := by
  show bs _ _ _
  revert h; generalize decide (a ≤ b) = c; cases c <;> exact id
theorem ib_lt (h : K (.bool (decide (a < b)))) : ibinK .lss k a b K := by
  show bs _ _ _
  revert h; generalize decide (a < b) = c; cases c <;> exact id
theorem ib_gt (h : K (.bool (decide (a > b)))) : ibinK .gtr k a b K := by
  show bs _ _ _
  revert h; generalize decide (a > b) = c; cases c <;> exact id
theorem bs_of {c : Bool} {x y : Prop} (d : Bool) (h : c = d) (hx : d = true → x) (hy : d = false → y) : bs c x y := by
  subst h; cases c
  · exact hy rfl
  · exact hx rfl
theorem ib_lt_no (h : ¬ a < b) (hk : K (.bool false)) : ibinK .lss k a b K := ib_lt (by rw [decide_eq_false h]; exact hk)
theorem ib_lt_yes (h : a < b) (hk : K (.bool true)) : ibinK .lss k a b K := ib_lt (by rw [decide_eq_true h]; exact hk)
theorem ib_gt_no (h : ¬ a > b) (hk : K (.bool false)) : ibinK .gtr k a b K := ib_gt (by rw [decide_eq_false h]; exact hk)
theorem ib_gt_yes (h : a > b) (hk : K (.bool true)) : ibinK .gtr k a b K := ib_gt (by rw [decide_eq_true h]; exact hk)
end

/-! ### A slice that is written -/
theorem op_st_arr {B : Base} {H : Heap} {K : AV → Heap → Prop} {n k i : Nat} {v : AV} {c vs : List AV} (hv : v.cells? = some vs) (hn : vs.length = n) (hg : H[k]? = some (.arr c)) (hl : i + n ≤ c.length) (hk : K .dead (H.set k (.arr (putAt c i vs)))) : aop B E0 H K (.st n (.const (.ptr (some (.new k, i)))) (.const v)) := by
  subst hn
  simp only [aop, opK, Opd.look, ob_some, hv, if_true, poke, pokeAt, hg, if_pos hl]
  exact hk
/-- A row that was just built. -/
theorem sl_row1 {B : Base} {G : Heap} {es : Nat} {row : List AV} (h : row.length = es) : Sl B (G ++ [.arr row]) es (.slice (.new G.length) 0 1 es (some 1)) [row] :=
  ⟨fun r hr => by rw [List.mem_singleton.1 hr]; exact h, .inr ⟨_, _, _, rfl, cellsAt_iff'.2 ⟨row, by simp only [cellsOf, get_app0]; rfl, by simp [h], by simp [← h]⟩⟩⟩
theorem sl_rows {B : Base} {G : Heap} {es k cap : Nat} {rows : List (List AV)} {c : List AV} (hk : k = rows.length) (hc : c = rows.flatten) (h : ∀ r, r ∈ rows → r.length = es) : Sl B (G ++ [.arr c]) es (.slice (.new G.length) 0 k es (some cap)) rows := by
  subst hk hc
  exact ⟨h, .inr ⟨_, _, _, rfl, cellsAt_iff'.2 ⟨rows.flatten, by simp only [cellsOf, get_app0]; rfl, by rw [flatten_len h]; omega, by rw [List.drop_zero, ← flatten_len h, List.take_length]⟩⟩⟩



section
variable {a b : List UInt8} {K : AV → Prop}
def gtr (a b : List UInt8) : Bool := !(sLess a b || a == b)

theorem bool_split {c : Bool} {K : AV → Prop} (h : K (.bool c)) : bs c (K (.bool true)) (K (.bool false)) := by cases c <;> exact h

end

theorem tyK_bool {b : Bool} {K : AV → Prop} (h : K (.bool b)) : tyK .bool (.bool b) K := by
  cases b <;> exact h

theorem op_notB {B : Base} {H : Heap} {K : AV → Heap → Prop} {b : Bool} (h : K (.bool (!b)) H) : aop B E0 H K (.not (.const (.bool b))) := by
  simp only [aop, opK, Opd.look, ob_some, pBool_bool]
  cases b <;> exact h

end Go.Am
