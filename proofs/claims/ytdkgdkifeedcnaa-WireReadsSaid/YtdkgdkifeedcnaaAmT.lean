/- More laws of the abstract machine,for those who walk: slices that grow,choices of memory,tests. -/
import Derived.Test.YtdkgdkifeedcnaaAmS
namespace Go.Am
open Go
theorem slK_in {H : Heap} {es len : Nat} {c : List AV} {K : AV → Heap → Prop} (h : K (.slice (.new H.length) 0 len es (some len)) (H ++ [.arr c])) : slK H es len c K := h
theorem tidy_drop2 {n : Nat} {H : Heap} {x y : AObj} {Q : AV → Heap → Prop} {v : AV} (hn : n = H.length) (hl : LowH n H) (hv : Low n v) (h : Q v H) : tidyK n Q v (H ++ [x] ++ [y]) := by
 rw [List.append_assoc]; exact tidy_drop hn hl hv h
theorem drop_cons {α : Type} {all r : List α} {i : Nat} {t : α} (h : all.drop i = t :: r) : all[i]? = some t ∧ i < all.length ∧ all.drop (i + 1) = r := by
 have h1 : all[i]? = some t := by
  have : (all.drop i)[0]? = some t := by rw [h]; rfl
  simpa using this
 refine ⟨h1,?_,?_⟩
 ·rcases Nat.lt_or_ge i all.length with h' | h'
  ·exact h'
  ·rw [List.getElem?_eq_none h'] at h1; cases h1
 ·rw [← List.drop_drop,h]; rfl
theorem drop_nil {α : Type} {all : List α} {i : Nat} (h : all.drop i = []) : all.length ≤ i := by
 have : (all.drop i).length = 0 := by rw [h]; rfl
 simp at this; omega
theorem growV_sl {B : Base} {H : Heap} {k es : Nat} {rows : List (List AV)} (hg : H[k]? = some (growO rows)) (hl : ∀ r,r ∈ rows → r.length = es) : Sl B H es (growV k es rows) rows := by
 refine ⟨hl,?_⟩
 unfold growV
 by_cases h : rows = []
 ·rw [if_pos h]; exact .inl ⟨rfl,h⟩
 ·rw [if_neg h]
  refine .inr ⟨_,_,_,rfl,cellsAt_iff'.2 ⟨rows.flatten,?_,?_,?_⟩⟩
  ·simp only [growO,h,if_false] at hg; simp only [cellsOf,hg]
  ·rw [flatten_len hl]; omega
  ·rw [List.drop_zero,← flatten_len hl,List.take_length]
theorem bs_yes {b : Bool} {x y : Prop} (h : b = true) (hx : x) : bs b x y := by subst h; exact hx
theorem live_nils (K : AV → Prop) (h : K .nils) : pLive .nils K := h
theorem bs_no {b : Bool} {x y : Prop} (h : b = false) (hy : y) : bs b x y := by subst h; exact hy
theorem set_same {α : Type} {l : List α} {k : Nat} {x : α} (h : l[k]? = some x) : l.set k x = l := by
 apply List.ext_getElem?
 intro i
 rw [List.getElem?_set]
 split
 ·rename_i e; subst e
  split
  ·exact h.symm
  ·rename_i hl; rw [List.getElem?_eq_none (by omega)] at h; cases h
 ·rfl
theorem bs_dec {p : Prop} [inst : Decidable p] {x y : Prop} (h1 : p → x) (h2 : ¬ p → y) : bs (decide p) x y := bs_iff.2 ⟨fun h => h1 (of_decide_eq_true h),fun h => h2 (of_decide_eq_false h)⟩
theorem lay_row {z row : List AV} {n : Nat} (hz : z.length = n) (hr : row.length = n) : layParts z [(0,n,.agg row)] = some row := by
 simp only [layParts,AV.cells?]
 rw [if_pos ⟨hr,by omega⟩,putAt_all (by omega)]
theorem op_prefix {B : Base} {H : Heap} {K : AV → Heap → Prop} {es : Nat} {v : AV} {rows : List (List AV)} {k : Nat} {a : Int} (hs : Sl B H es v rows) (hk : a = (k : Int)) (hle : k ≤ rows.length)
  (h : ∀ v',Sl B H es v' (rows.take k) → (∀ n,Low n v → Low n v') → K v' H) : aop B E0 H K (.sliceL es (.const v) none (some (.const (.int .i64 a))) none) := by
 subst hk
 obtain ⟨hl,⟨rfl,rfl⟩ | ⟨o,off,cap,rfl,hc⟩⟩ := hs
 ·have : k = 0 := by simpa using hle
  subst this
  exact h .nils ⟨fun r hr => by simp at hr,.inl ⟨rfl,rfl⟩⟩ fun n hn => hn
 ·have hc' := cellsAt_sub hc (j := 0) (m := k * es) (by
   have := Nat.mul_le_mul_right es hle; omega)
  have hfl : (rows.take k).flatten = rows.flatten.take (k * es) := by
   have h1 : rows.flatten = (rows.take k).flatten ++ (rows.drop k).flatten := by rw [← List.flatten_append,List.take_append_drop]
   have h2 : (rows.take k).flatten.length = k * es := by
    rw [flatten_len (fun r hr => hl r (List.mem_of_mem_take hr)),List.length_take]; congr 1; omega
   rw [h1,← h2,List.take_left']
   rfl
  have hlt : (rows.take k).length = k := by rw [List.length_take]; omega
  have key : ∀ cap',Sl B H es (.slice o off k es cap') (rows.take k) := fun cap' => ⟨fun r hr => hl r (List.mem_of_mem_take hr),.inr ⟨o,off,cap',by rw [hlt],by rw [hlt,hfl]; simpa using hc'⟩⟩
  have low : ∀ cap' n,Low n (.slice o off rows.length es cap) → Low n (.slice o off k es cap') := fun cap' n hn => by
   simp only [Low,RV] at hn ⊢
   exact ⟨hn.1,by simp [Id.ren_id]⟩
  simp only [aop,opK,Opd.look,ob_some,lenOf,optK,pAny_int,sliceOf]
  rw [if_pos ⟨trivial,by omega,by omega,by omega⟩,ob_some]
  cases cap with
  | none => exact h _ (by simpa using key none) fun n hn => by simpa using low none n hn
  | some c =>
   have e : (if c = 0 then off else off + 0 * es) = off := by split <;> simp
   show K (.slice o (if c = 0 then off else off + 0 * es) (k - 0) es (some (c - 0))) H
   rw [e]
   exact h _ (by simpa using key (some c)) fun n hn => by simpa using low (some c) n hn
section
variable {n : Nat} {H L : Heap} {o o1 o2 o3 : AObj} {a b c : Nat}
theorem sel1 (hn : n = H.length) (hH : LowH n H) (ha : L[a]? = some o) (hf : flatO o) : Cln n (pick n fun _ => a) (H ++ L) (H ++ [o]) := by
 refine Cln.pick hn hH _ ?_ ?_
 ·intro j k hj hk _; simp at hj hk; omega
 ·intro j x hj
  match j with
  | 0 => simp at hj; subst hj; exact .inr ⟨ha,hf⟩
  | j + 1 => simp at hj
end
section
variable {k : IntKind} {a b : Int} {K : AV → Prop}
theorem ib_eq_yes (h : a = b) (hk : K (.bool true)) : ibinK .eql k a b K := by
 show bs (a == b) _ _
 rw [beq_iff_eq.2 h]; exact hk
theorem ib_eq_no (h : a ≠ b) (hk : K (.bool false)) : ibinK .eql k a b K := by
 show bs (a == b) _ _
 rw [beq_eq_false_iff_ne.2 h]; exact hk
theorem ib_ne_yes (h : a ≠ b) (hk : K (.bool true)) : ibinK .neq k a b K := by
 show bs (a != b) _ _
 rw [bne_iff_ne.2 h]; exact hk
theorem ib_ne_no (h : a = b) (hk : K (.bool false)) : ibinK .neq k a b K := by
 show bs (a != b) _ _
 subst h; simpa using hk
theorem ib_eq (h : K (.bool (decide (a = b)))) : ibinK .eql k a b K := by
 by_cases e : a = b
 ·exact ib_eq_yes e (by simpa [e] using h)
 ·exact ib_eq_no e (by simpa [e] using h)
theorem ib_le (h : K (.bool (decide (a ≤ b)))) : ibinK .leq k a b K := by
 show bs _ _ _
 revert h; generalize decide (a ≤ b) = c; cases c <;> exact id
theorem ib_lt (h : K (.bool (decide (a < b)))) : ibinK .lss k a b K := by
 show bs _ _ _
 revert h; generalize decide (a < b) = c; cases c <;> exact id
theorem ib_gt (h : K (.bool (decide (a > b)))) : ibinK .gtr k a b K := by
 show bs _ _ _
 revert h; generalize decide (a > b) = c; cases c <;> exact id
theorem ib_lt_no (h : ¬ a < b) (hk : K (.bool false)) : ibinK .lss k a b K := ib_lt (by rw [decide_eq_false h]; exact hk)
theorem ib_lt_yes (h : a < b) (hk : K (.bool true)) : ibinK .lss k a b K := ib_lt (by rw [decide_eq_true h]; exact hk)
theorem ib_gt_no (h : ¬ a > b) (hk : K (.bool false)) : ibinK .gtr k a b K := ib_gt (by rw [decide_eq_false h]; exact hk)
theorem ib_gt_yes (h : a > b) (hk : K (.bool true)) : ibinK .gtr k a b K := ib_gt (by rw [decide_eq_true h]; exact hk)
end
theorem op_st_arr {B : Base} {H : Heap} {K : AV → Heap → Prop} {n k i : Nat} {v : AV} {c vs : List AV} (hv : v.cells? = some vs) (hn : vs.length = n) (hg : H[k]? = some (.arr c)) (hl : i + n ≤ c.length) (hk : K .dead (H.set k (.arr (putAt c i vs)))) : aop B E0 H K (.st n (.const (.ptr (some (.new k,i)))) (.const v)) := by
 subst hn
 simp only [aop,opK,Opd.look,ob_some,hv,if_true,poke,pokeAt,hg,if_pos hl]
 exact hk
theorem sl_row1 {B : Base} {G : Heap} {es : Nat} {row : List AV} (h : row.length = es) : Sl B (G ++ [.arr row]) es (.slice (.new G.length) 0 1 es (some 1)) [row] :=
 ⟨fun r hr => by rw [List.mem_singleton.1 hr]; exact h,.inr ⟨_,_,_,rfl,cellsAt_iff'.2 ⟨row,by simp only [cellsOf,get_app0]; rfl,by simp [h],by simp [← h]⟩⟩⟩
section
variable {a b : List UInt8} {K : AV → Prop}
def gtr (a b : List UInt8) : Bool := !(sLess a b || a == b)
theorem bool_split {c : Bool} {K : AV → Prop} (h : K (.bool c)) : bs c (K (.bool true)) (K (.bool false)) := by cases c <;> exact h
theorem ib_neq {k : IntKind} {a b : Int} {K : AV → Prop} (h : K (.bool (a != b))) : ibinK .neq k a b K := bool_split h
theorem ib_eqq {k : IntKind} {a b : Int} {K : AV → Prop} (h : K (.bool (a == b))) : ibinK .eql k a b K := bool_split h
theorem guard_split {c : Bool} {x y s : Prop} (h1 : c = true → x) (h2 : c = false → y) : pGuard (.bool c) (fun b => bs b x y) s := by
 cases c
 ·exact h2 rfl
 ·exact h1 rfl
end
theorem tyK_bool {b : Bool} {K : AV → Prop} (h : K (.bool b)) : tyK .bool (.bool b) K := by
 cases b <;> exact h
theorem op_notB {B : Base} {H : Heap} {K : AV → Heap → Prop} {b : Bool} (h : K (.bool (!b)) H) : aop B E0 H K (.not (.const (.bool b))) := by
 simp only [aop,opK,Opd.look,ob_some,pBool_bool]
 cases b <;> exact h
theorem slice_rv {f : Nat → Nat} {n a b off len es : Nat} {cap : Option Nat} (h1 : f a = b) (h2 : a < n) : RV f n (.slice (.new a) off len es cap) (.slice (.new b) off len es cap) := ⟨h2,by simp [Id.ren,h1]⟩
end Go.Am
