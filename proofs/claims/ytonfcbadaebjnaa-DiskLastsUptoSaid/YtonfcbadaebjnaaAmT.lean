/- More laws of the abstract machine, for those who walk: slices that grow, choices of memory, tests. -/
import Derived.Test.YtonfcbadaebjnaaAmS
namespace Go.Am
open Go

theorem slK_in {H : Heap} {es len : Nat} {c : List AV} {K : AV → Heap → Prop} (h : K (.slice (.new H.length) 0 len es (some len)) (H ++ [.arr c])) : slK H es len c K := h

theorem tidy_drop2 {n : Nat} {H : Heap} {x y : AObj} {Q : AV → Heap → Prop} {v : AV} (hn : n = H.length) (hl : LowH n H) (hv : Low n v) (h : Q v H) : tidyK n Q v (H ++ [x] ++ [y]) := by
  rw [List.append_assoc]; exact tidy_drop hn hl hv h

theorem growV_rv {f : Nat → Nat} {n a b es : Nat} {rows : List (List AV)} (h1 : f a = b) (h2 : a < n) : RV f n (growV a es rows) (growV b es rows) := by
  unfold growV
  split
  · exact rfl
  · exact ⟨h2, by simp [Id.ren, h1]⟩

theorem drop_cons {α : Type} {all r : List α} {i : Nat} {t : α} (h : all.drop i = t :: r) : all[i]? = some t ∧ i < all.length ∧ all.drop (i + 1) = r := by
  have h1 : all[i]? = some t := by
    have : (all.drop i)[0]? = some t := by rw [h]; rfl
    simpa using this
  refine ⟨h1, ?_, ?_⟩
  · rcases Nat.lt_or_ge i all.length with h' | h'
    · exact h'
    · rw [List.getElem?_eq_none h'] at h1; cases h1
  · rw [← List.drop_drop, h]; rfl

theorem drop_nil {α : Type} {all : List α} {i : Nat} (h : all.drop i = []) : all.length ≤ i := by
  have : (all.drop i).length = 0 := by rw [h]; rfl
  simp at this; omega

theorem growV_len (k es : Nat) (rows : List (List AV)) : lenOf (growV k es rows) = some rows.length := by
  unfold growV; split
  · rename_i h; subst h; rfl
  · rfl

theorem growV_live (k es : Nat) (rows : List (List AV)) (K : AV → Prop) (h : K (growV k es rows)) : pLive (growV k es rows) K := by
  rw [pLive_iff]; exact ⟨by unfold growV; split <;> simp, h⟩

theorem growV_sl {B : Base} {H : Heap} {k es : Nat} {rows : List (List AV)} (hg : H[k]? = some (growO rows)) (hl : ∀ r, r ∈ rows → r.length = es) : Sl B H es (growV k es rows) rows := by
  refine ⟨hl, ?_⟩
  unfold growV
  by_cases h : rows = []
  · rw [if_pos h]; exact .inl ⟨rfl, h⟩
  · rw [if_neg h]
    refine .inr ⟨_, _, _, rfl, cellsAt_iff'.2 ⟨rows.flatten, ?_, ?_, ?_⟩⟩
    · simp only [growO, h, if_false] at hg; simp only [cellsOf, hg]
    · rw [flatten_len hl]; omega
    · rw [List.drop_zero, ← flatten_len hl, List.take_length]

theorem op_ext3 {B : Base} {H : Heap} {K : AV → AV → AV → Prop} {a : AV} {i : Int} {b : Bool} (ha : ∀ K : AV → Prop, K a → pLive a K) (h : K a (.int .i64 i) (.bool b)) :
    pLive (.tuple [a, .int .i64 i, .bool b]) fun v => aop B E0 H (fun x _ => aop B E0 H (fun y _ => aop B E0 H (fun z _ => K x y z) (.extract (some .bool) 2 (.const v))) (.extract (some (.int .i64)) 1 (.const v))) (.extract (some .other) 0 (.const v)) := by
  show pLive a fun x => pInt .i64 (.int .i64 i) fun y => pBool (.bool b) fun z => bs z (K x (.int .i64 y) (.bool true)) (K x (.int .i64 y) (.bool false))
  refine ha _ ?_
  rw [pInt_int, pBool_bool]
  cases b
  · exact h
  · exact h

theorem bs_yes {b : Bool} {x y : Prop} (h : b = true) (hx : x) : bs b x y := by subst h; exact hx

theorem live_nils (K : AV → Prop) (h : K .nils) : pLive .nils K := h

theorem bs_no {b : Bool} {x y : Prop} (h : b = false) (hy : y) : bs b x y := by subst h; exact hy

/-- A slice that was made empty and then only grows. -/
def wV (k es : Nat) (rows : List (List AV)) : AV := if rows = [] then .slice (.new k) 0 0 es (some 0) else .slice (.new k) 0 rows.length es none

theorem wV_rv {f : Nat → Nat} {n a b es : Nat} {rows : List (List AV)} (h1 : f a = b) (h2 : a < n) : RV f n (wV a es rows) (wV b es rows) := by
  unfold wV
  split
  · exact ⟨h2, by simp [Id.ren, h1]⟩
  · exact ⟨h2, by simp [Id.ren, h1]⟩

theorem wV_sl {B : Base} {H : Heap} {k es : Nat} {rows : List (List AV)} (hg : H[k]? = some (.arr rows.flatten)) (hl : ∀ r, r ∈ rows → r.length = es) : Sl B H es (wV k es rows) rows := by
  refine ⟨hl, .inr ?_⟩
  have hc : cellsAt B H (.new k) 0 (rows.length * es) = some rows.flatten := cellsAt_iff'.2 ⟨rows.flatten, by simp only [cellsOf, hg], by rw [flatten_len hl]; omega, by rw [List.drop_zero, ← flatten_len hl, List.take_length]⟩
  unfold wV
  by_cases h : rows = []
  · subst h; exact ⟨_, _, _, rfl, hc⟩
  · rw [if_neg h]; exact ⟨_, _, _, rfl, hc⟩

theorem set_same {α : Type} {l : List α} {k : Nat} {x : α} (h : l[k]? = some x) : l.set k x = l := by
  apply List.ext_getElem?
  intro i
  rw [List.getElem?_set]
  split
  · rename_i e; subst e
    split
    · exact h.symm
    · rename_i hl; rw [List.getElem?_eq_none (by omega)] at h; cases h
  · rfl

/-- Append of a row of rows. -/
theorem op_appendW {B : Base} {G : Heap} {K : AV → Heap → Prop} {k es bytes : Nat} {rows1 rows2 : List (List AV)} {u : AV} (hg : G[k]? = some (growO rows1)) (h1 : ∀ r, r ∈ rows1 → r.length = es) (hu : Sl B G es u rows2) (hne : rows2 ≠ []) (hb : (rows1.length + rows2.length) * bytes ≤ maxBytes)
    (hk : K (growV G.length es (rows1 ++ rows2)) (G.set k .gone ++ [growO (rows1 ++ rows2)])) : aop B E0 G K (.append es bytes (.const (growV k es rows1)) (.const u)) := by
  have hl2 := flatten_len hu.1
  have hn2 : rows2.length ≠ 0 := by intro e; exact hne (List.length_eq_zero_iff.1 e)
  have hnn : rows1 ++ rows2 ≠ [] := by simp [hne]
  have hlen : (G.set k AObj.gone).length = G.length := List.length_set
  simp only [aop, opK, Opd.look, ob_some, hu.len, hu.elems]
  rw [if_pos hl2]
  simp only [growV, growO, hnn, if_false, List.length_append, List.flatten_append] at hk
  by_cases h0 : rows1 = []
  · subst h0
    have hset : G.set k .gone = G := set_same (by simpa [growO] using hg)
    rw [hset] at hk
    rw [show growV k es [] = .nils from rfl, appendTo_nil hn2 (by simpa using hb), ob_some]
    simpa using hk
  · have hgk : G[k]? = some (.arr rows1.flatten) := by simpa [growO, h0] using hg
    have hc : cellsAt B G (.new k) 0 (rows1.length * es) = some rows1.flatten :=
      cellsAt_iff'.2 ⟨rows1.flatten, by simp only [cellsOf, hgk], by rw [flatten_len h1]; omega, by rw [List.drop_zero, ← flatten_len h1, List.take_length]⟩
    rw [show growV k es rows1 = .slice (.new k) 0 rows1.length es none from if_neg h0, appendTo_own hn2 hb hc, ob_some]
    exact hk

theorem op_appendE {B : Base} {G : Heap} {K : AV → Heap → Prop} {k es bytes : Nat} {rows1 rows2 : List (List AV)} {u : AV} (hg : G[k]? = some (.arr rows1.flatten)) (h1 : ∀ r, r ∈ rows1 → r.length = es) (hu : Sl B G es u rows2) (hne : rows2 ≠ []) (hb : (rows1.length + rows2.length) * bytes ≤ maxBytes)
    (hk : ∀ o, K (wV G.length es (rows1 ++ rows2)) (G.set k o ++ [.arr (rows1 ++ rows2).flatten])) : aop B E0 G K (.append es bytes (.const (wV k es rows1)) (.const u)) := by
  have hl2 := flatten_len hu.1
  have hn2 : rows2.length ≠ 0 := by intro e; exact hne (List.length_eq_zero_iff.1 e)
  have hnn : rows1 ++ rows2 ≠ [] := by simp [hne]
  simp only [aop, opK, Opd.look, ob_some, hu.len, hu.elems]
  rw [if_pos hl2]
  simp only [wV, hnn, if_false, List.length_append, List.flatten_append] at hk
  have hc : cellsAt B G (.new k) 0 (rows1.length * es) = some rows1.flatten :=
    cellsAt_iff'.2 ⟨rows1.flatten, by simp only [cellsOf, hg], by rw [flatten_len h1]; omega, by rw [List.drop_zero, ← flatten_len h1, List.take_length]⟩
  by_cases h0 : rows1 = []
  · subst h0
    have h2 := hk (.arr ([] : List (List AV)).flatten)
    rw [set_same hg] at h2
    have happ : appendTo B G es bytes (.slice (.new k) 0 0 es (some 0)) rows2.length rows2.flatten = some (.slice (.new G.length) 0 (0 + rows2.length) es none, G ++ [.arr ([] ++ rows2.flatten)]) := by
      show (if rows2.length = 0 then _ else (if es = es then (if 0 + rows2.length ≤ 0 then _ else (if (0 + rows2.length) * bytes ≤ maxBytes then (cellsAt B G (.new k) 0 (0 * es)).map _ else none)) else none)) = _
      rw [if_neg hn2, if_pos rfl, if_neg (by omega), if_pos (by simpa using hb)]
      have : cellsAt B G (.new k) 0 (0 * es) = some [] := by simpa using hc
      rw [this]; rfl
    rw [show wV k es [] = .slice (.new k) 0 0 es (some 0) from rfl, happ, ob_some]
    simpa using h2
  · rw [show wV k es rows1 = .slice (.new k) 0 rows1.length es none from if_neg h0, appendTo_own hn2 hb hc, ob_some]
    exact hk .gone

theorem bs_dec {p : Prop} [inst : Decidable p] {x y : Prop} (h1 : p → x) (h2 : ¬ p → y) : bs (decide p) x y := bs_iff.2 ⟨fun h => h1 (of_decide_eq_true h), fun h => h2 (of_decide_eq_false h)⟩

theorem lay_row {z row : List AV} {n : Nat} (hz : z.length = n) (hr : row.length = n) : layParts z [(0, n, .agg row)] = some row := by
  simp only [layParts, AV.cells?]
  rw [if_pos ⟨hr, by omega⟩, putAt_all (by omega)]

theorem wV_live (k es : Nat) (rows : List (List AV)) (K : AV → Prop) (h : K (wV k es rows)) : pLive (wV k es rows) K := by
  rw [pLive_iff]; exact ⟨by unfold wV; split <;> simp, h⟩

theorem wV_len (k es : Nat) (rows : List (List AV)) : lenOf (wV k es rows) = some rows.length := by
  unfold wV; split
  · rename_i h; subst h; rfl
  · rfl

/-- The end of a slice. -/
theorem op_suffixW {B : Base} {G : Heap} {K : AV → Heap → Prop} {k es j : Nat} {a : Int} {rows : List (List AV)} (hg : G[k]? = some (.arr rows.flatten)) (hl : ∀ r, r ∈ rows → r.length = es) (ha : a = (j : Int)) (hj : j ≤ rows.length)
    (h : ∀ v', Sl B G es v' (rows.drop j) → K v' G) : aop B E0 G K (.sliceL es (.const (wV k es rows)) (some (.const (.int .i64 a))) none none) := by
  subst ha
  have hfl : (rows.drop j).flatten = rows.flatten.drop (j * es) := by
    have h1 : rows.flatten = (rows.take j).flatten ++ (rows.drop j).flatten := by rw [← List.flatten_append, List.take_append_drop]
    have h2 : (rows.take j).flatten.length = j * es := by
      rw [flatten_len (fun r hr => hl r (List.mem_of_mem_take hr)), List.length_take]; congr 1; omega
    rw [h1, ← h2, List.drop_left']
    rfl
  have hl' : ∀ r, r ∈ rows.drop j → r.length = es := fun r hr => hl r (List.mem_of_mem_drop hr)
  have hmul : j * es ≤ rows.length * es := Nat.mul_le_mul_right es hj
  have hc : cellsAt B G (.new k) (j * es) ((rows.drop j).length * es) = some (rows.drop j).flatten := by
    refine cellsAt_iff'.2 ⟨rows.flatten, by simp only [cellsOf, hg], ?_, ?_⟩
    · rw [flatten_len hl, List.length_drop, Nat.sub_mul]; omega
    · rw [hfl, List.length_drop, Nat.sub_mul, ← flatten_len hl, ← List.length_drop, List.take_length]
  simp only [aop, opK, Opd.look, ob_some, wV_len, optK, pAny_int]
  by_cases h0 : rows = []
  · subst h0
    have : j = 0 := by simpa using hj
    subst this
    have e : sliceOf es (wV k es []) ((0 : Nat) : Int) ((([] : List (List AV)).length : Nat) : Int) = some (.slice (.new k) 0 0 es (some 0)) := by
      show sliceOf es (.slice (.new k) 0 0 es (some 0)) 0 0 = _
      simp [sliceOf]
    rw [e, ob_some]
    exact h _ ⟨hl', .inr ⟨_, _, _, rfl, by simpa using hc⟩⟩
  · have e : wV k es rows = .slice (.new k) 0 rows.length es none := if_neg h0
    rw [e]
    simp only [sliceOf]
    rw [if_pos ⟨trivial, by omega, by omega, by omega⟩, ob_some]
    refine h _ ⟨hl', .inr ⟨.new k, 0 + j * es, none, ?_, ?_⟩⟩
    · simp
    · rw [Nat.zero_add]; exact hc

/-- Append, of any number of rows. -/
theorem op_appendN {B : Base} {G : Heap} {K : AV → Heap → Prop} {k es bytes : Nat} {rows1 rows2 : List (List AV)} {u : AV} (hg : G[k]? = some (.arr rows1.flatten)) (h1 : ∀ r, r ∈ rows1 → r.length = es) (hu : Sl B G es u rows2) (hb : (rows1.length + rows2.length) * bytes ≤ maxBytes)
    (hk : ∀ k' o L, k ≤ k' → (G.set k o ++ L)[k']? = some (.arr (rows1 ++ rows2).flatten) → K (wV k' es (rows1 ++ rows2)) (G.set k o ++ L)) : aop B E0 G K (.append es bytes (.const (wV k es rows1)) (.const u)) := by
  by_cases hne : rows2 = []
  · subst hne
    have h2 := hk k (.arr rows1.flatten) [] (Nat.le_refl _)
    rw [set_same hg, List.append_nil, List.append_nil] at h2
    simp only [aop, opK, Opd.look, ob_some, hu.len, hu.elems]
    rw [if_pos (by simp)]
    have : appendTo B G es bytes (wV k es rows1) 0 ([] : List AV) = some (wV k es rows1, G) := by
      unfold wV; split <;> rfl
    show ob (appendTo B G es bytes (wV k es rows1) 0 ([] : List AV)) _
    rw [this, ob_some]
    exact h2 hg
  · refine op_appendE hg h1 hu hne hb fun o => ?_
    have hlt := lt_of_get hg
    have e : (G.set k o).length = G.length := List.length_set
    refine hk G.length o _ (by omega) ?_
    rw [← e, get_app0]; rfl

theorem tidy_set {n : Nat} {H : Heap} {Q : AV → Heap → Prop} {L M : Heap} {k : Nat} {o : AObj} {v : AV} (hn : n = H.length) (hH : LowH n H) (hv : Low n v) (hk : H.length ≤ k) (h : Q v H) : tidyK n Q v ((H ++ L).set k o ++ M) := by
  obtain ⟨j, rfl⟩ : ∃ j, k = H.length + j := ⟨k - H.length, by omega⟩
  rw [set_app, List.append_assoc]
  exact tidy_drop hn hH hv h

/-- A beginning of a slice. -/
theorem op_prefix {B : Base} {H : Heap} {K : AV → Heap → Prop} {es : Nat} {v : AV} {rows : List (List AV)} {k : Nat} {a : Int} (hs : Sl B H es v rows) (hk : a = (k : Int)) (hle : k ≤ rows.length)
    (h : ∀ v', Sl B H es v' (rows.take k) → (∀ n, Low n v → Low n v') → K v' H) : aop B E0 H K (.sliceL es (.const v) none (some (.const (.int .i64 a))) none) := by
  subst hk
  obtain ⟨hl, ⟨rfl, rfl⟩ | ⟨o, off, cap, rfl, hc⟩⟩ := hs
  · have : k = 0 := by simpa using hle
    subst this
    exact h .nils ⟨fun r hr => by simp at hr, .inl ⟨rfl, rfl⟩⟩ fun n hn => hn
  · have hc' := cellsAt_sub hc (j := 0) (m := k * es) (by
      have := Nat.mul_le_mul_right es hle; omega)
    have hfl : (rows.take k).flatten = rows.flatten.take (k * es) := by
      have h1 : rows.flatten = (rows.take k).flatten ++ (rows.drop k).flatten := by rw [← List.flatten_append, List.take_append_drop]
      have h2 : (rows.take k).flatten.length = k * es := by
        rw [flatten_len (fun r hr => hl r (List.mem_of_mem_take hr)), List.length_take]; congr 1; omega
      rw [h1, ← h2, List.take_left']
      rfl
    have hlt : (rows.take k).length = k := by rw [List.length_take]; omega
    have key : ∀ cap', Sl B H es (.slice o off k es cap') (rows.take k) := fun cap' => ⟨fun r hr => hl r (List.mem_of_mem_take hr), .inr ⟨o, off, cap', by rw [hlt], by rw [hlt, hfl]; simpa using hc'⟩⟩
    have low : ∀ cap' n, Low n (.slice o off rows.length es cap) → Low n (.slice o off k es cap') := fun cap' n hn => by
      simp only [Low, RV] at hn ⊢
      exact ⟨hn.1, by simp [Id.ren_id]⟩
    simp only [aop, opK, Opd.look, ob_some, lenOf, optK, pAny_int, sliceOf]
    rw [if_pos ⟨trivial, by omega, by omega, by omega⟩, ob_some]
    cases cap with
    | none => exact h _ (by simpa using key none) fun n hn => by simpa using low none n hn
    | some c =>
      have e : (if c = 0 then off else off + 0 * es) = off := by split <;> simp
      show K (.slice o (if c = 0 then off else off + 0 * es) (k - 0) es (some (c - 0))) H
      rw [e]
      exact h _ (by simpa using key (some c)) fun n hn => by simpa using low (some c) n hn

section
variable {n : Nat} {H L : Heap} {o o1 o2 o3 : AObj} {a b c : Nat}

theorem pick_n1 {g : Nat → Nat} : pick n g (n + 1) = n + g 1 := pick_at 1
theorem pick_n2 {g : Nat → Nat} : pick n g (n + 2) = n + g 2 := pick_at 2

theorem sel1 (hn : n = H.length) (hH : LowH n H) (ha : L[a]? = some o) (hf : flatO o) : Cln n (pick n fun _ => a) (H ++ L) (H ++ [o]) := by
  refine Cln.pick hn hH _ ?_ ?_
  · intro j k hj hk _; simp at hj hk; omega
  · intro j x hj
    match j with
    | 0 => simp at hj; subst hj; exact .inr ⟨ha, hf⟩
    | j + 1 => simp at hj
theorem sel2 (hn : n = H.length) (hH : LowH n H) (ha : L[a]? = some o1) (h1 : flatO o1) (hb : L[b]? = some o2) (h2 : flatO o2) (hab : a ≠ b) :
    Cln n (pick n fun j => if j = 0 then a else b) (H ++ L) (H ++ [o1, o2]) := by
  refine Cln.pick hn hH _ ?_ ?_
  · intro j k hj hk e
    simp at hj hk
    have hj' : j = 0 ∨ j = 1 := by omega
    have hk' : k = 0 ∨ k = 1 := by omega
    rcases hj' with rfl | rfl <;> rcases hk' with rfl | rfl <;> simp at e ⊢ <;> omega
  · intro j x hj
    match j with
    | 0 => simp at hj; subst hj; exact .inr ⟨ha, h1⟩
    | 1 => simp at hj; subst hj; exact .inr ⟨hb, h2⟩
    | j + 2 => simp at hj
theorem sel3 (hn : n = H.length) (hH : LowH n H) (ha : L[a]? = some o1) (h1 : flatO o1) (hb : L[b]? = some o2) (h2 : flatO o2) (hc : L[c]? = some o3) (h3 : flatO o3) (hab : a ≠ b) (hac : a ≠ c) (hbc : b ≠ c) :
    Cln n (pick n fun j => if j = 0 then a else if j = 1 then b else c) (H ++ L) (H ++ [o1, o2, o3]) := by
  refine Cln.pick hn hH _ ?_ ?_
  · intro j k hj hk e
    simp at hj hk
    have hj' : j = 0 ∨ j = 1 ∨ j = 2 := by omega
    have hk' : k = 0 ∨ k = 1 ∨ k = 2 := by omega
    rcases hj' with rfl | rfl | rfl <;> rcases hk' with rfl | rfl | rfl <;> simp at e ⊢ <;> omega
  · intro j x hj
    match j with
    | 0 => simp at hj; subst hj; exact .inr ⟨ha, h1⟩
    | 1 => simp at hj; subst hj; exact .inr ⟨hb, h2⟩
    | 2 => simp at hj; subst hj; exact .inr ⟨hc, h3⟩
    | j + 3 => simp at hj

theorem low_pick {g : Nat → Nat} {m : Nat} {v : AV} (hm : n ≤ m) (h : Low n v) : RV (pick n g) m v v := Low.rv (fun _ hk => pick_low hk) hm v h
end

/-! ### Numbers compared -/
section
variable {k : IntKind} {a b : Int} {K : AV → Prop}
theorem ib_eq_yes (h : a = b) (hk : K (.bool true)) : ibinK .eql k a b K := by
  show bs (a == b) _ _
  rw [beq_iff_eq.2 h]; exact hk
theorem ib_eq_no (h : a ≠ b) (hk : K (.bool false)) : ibinK .eql k a b K := by
  show bs (a == b) _ _
  rw [beq_eq_false_iff_ne.2 h]; exact hk
theorem ib_ne_yes (h : a ≠ b) (hk : K (.bool true)) : ibinK .neq k a b K := by
  show bs (a != b) _ _
  rw [bne_iff_ne.2 h]; exact hk
theorem ib_ne_no (h : a = b) (hk : K (.bool false)) : ibinK .neq k a b K := by
  show bs (a != b) _ _
  subst h; simpa using hk
theorem ib_eq (h : K (.bool (decide (a = b)))) : ibinK .eql k a b K := by
  by_cases e : a = b
  · exact ib_eq_yes e (by simpa [e] using h)
  · exact ib_eq_no e (by simpa [e] using h)
theorem ib_le (h : K (.bool (decide (a ≤ b)))) : ibinK .leq k a b K := by
  show bs _ _ _
  revert h; generalize decide (a ≤ b) = c; cases c <;> exact id
theorem ib_lt (h : K (.bool (decide (a < b)))) : ibinK .lss k a b K := by
  show bs _ _ _
  revert h; generalize decide (a < b) = c; cases c <;> exact id
theorem ib_ge (h : K (.bool (decide (a ≥ b)))) : ibinK .geq k a b K := by
  show bs _ _ _
  revert h; generalize decide (a ≥ b) = c; cases c <;> exact id
theorem ib_gt (h : K (.bool (decide (a > b)))) : ibinK .gtr k a b K := by
  show bs _ _ _
  revert h; generalize decide (a > b) = c; cases c <;> exact id
theorem bs_of {c : Bool} {x y : Prop} (d : Bool) (h : c = d) (hx : d = true → x) (hy : d = false → y) : bs c x y := by
  subst h; cases c
  · exact hy rfl
  · exact hx rfl
theorem ib_lt_no (h : ¬ a < b) (hk : K (.bool false)) : ibinK .lss k a b K := ib_lt (by rw [decide_eq_false h]; exact hk)
theorem ib_lt_yes (h : a < b) (hk : K (.bool true)) : ibinK .lss k a b K := ib_lt (by rw [decide_eq_true h]; exact hk)
theorem ib_ge_no (h : ¬ a ≥ b) (hk : K (.bool false)) : ibinK .geq k a b K := ib_ge (by rw [decide_eq_false h]; exact hk)
theorem ib_ge_yes (h : a ≥ b) (hk : K (.bool true)) : ibinK .geq k a b K := ib_ge (by rw [decide_eq_true h]; exact hk)
theorem ib_gt_no (h : ¬ a > b) (hk : K (.bool false)) : ibinK .gtr k a b K := ib_gt (by rw [decide_eq_false h]; exact hk)
theorem ib_gt_yes (h : a > b) (hk : K (.bool true)) : ibinK .gtr k a b K := ib_gt (by rw [decide_eq_true h]; exact hk)
theorem ib_le_no (h : ¬ a ≤ b) (hk : K (.bool false)) : ibinK .leq k a b K := ib_le (by rw [decide_eq_false h]; exact hk)
theorem ib_le_yes (h : a ≤ b) (hk : K (.bool true)) : ibinK .leq k a b K := ib_le (by rw [decide_eq_true h]; exact hk)
end

/-! ### A slice that is written -/
theorem op_st_arr {B : Base} {H : Heap} {K : AV → Heap → Prop} {n k i : Nat} {v : AV} {c vs : List AV} (hv : v.cells? = some vs) (hn : vs.length = n) (hg : H[k]? = some (.arr c)) (hl : i + n ≤ c.length) (hk : K .dead (H.set k (.arr (putAt c i vs)))) : aop B E0 H K (.st n (.const (.ptr (some (.new k, i)))) (.const v)) := by
  subst hn
  simp only [aop, opK, Opd.look, ob_some, hv, if_true, poke, pokeAt, hg, if_pos hl]
  exact hk
theorem op_make {B : Base} {H : Heap} {K : AV → Heap → Prop} {es bytes m : Nat} {z : List AV} {a : Int} (ha : a = (m : Int)) (hb : (m : Int) * bytes ≤ maxBytes) (hm : (m : Int) ≤ maxInt) (hk : K (.slice (.new H.length) 0 m es (some m)) (H ++ [.arr (List.replicate m z).flatten])) :
    aop B E0 H K (.makeSlice es bytes z (.const (.int .i64 a)) (.const (.int .i64 a))) := by
  subst ha
  simp only [aop, opK, Opd.look, ob_some, pAny_int]
  rw [if_pos ⟨by omega, by omega, by simpa using hb, by simpa using hm⟩]
  exact hk

/-- A row that was just built. -/
theorem sl_row1 {B : Base} {G : Heap} {es : Nat} {row : List AV} (h : row.length = es) : Sl B (G ++ [.arr row]) es (.slice (.new G.length) 0 1 es (some 1)) [row] :=
  ⟨fun r hr => by rw [List.mem_singleton.1 hr]; exact h, .inr ⟨_, _, _, rfl, cellsAt_iff'.2 ⟨row, by simp only [cellsOf, get_app0]; rfl, by simp [h], by simp [← h]⟩⟩⟩
theorem sl_rows {B : Base} {G : Heap} {es k cap : Nat} {rows : List (List AV)} {c : List AV} (hk : k = rows.length) (hc : c = rows.flatten) (h : ∀ r, r ∈ rows → r.length = es) : Sl B (G ++ [.arr c]) es (.slice (.new G.length) 0 k es (some cap)) rows := by
  subst hk hc
  exact ⟨h, .inr ⟨_, _, _, rfl, cellsAt_iff'.2 ⟨rows.flatten, by simp only [cellsOf, get_app0]; rfl, by rw [flatten_len h]; omega, by rw [List.drop_zero, ← flatten_len h, List.take_length]⟩⟩⟩



section
variable {a b : List UInt8} {K : AV → Prop}
def gtr (a b : List UInt8) : Bool := !(sLess a b || a == b)

theorem bool_split {c : Bool} {K : AV → Prop} (h : K (.bool c)) : bs c (K (.bool true)) (K (.bool false)) := by cases c <;> exact h

theorem sb_lt (h : K (.bool (sLess a b))) : sbinK .lss a b K := bool_split h

theorem sb_gt (h : K (.bool (gtr a b))) : sbinK .gtr a b K := bool_split h

theorem sb_ge (h : K (.bool (!(sLess a b)))) : sbinK .geq a b K := bool_split h

theorem ib_neq {k : IntKind} {a b : Int} {K : AV → Prop} (h : K (.bool (a != b))) : ibinK .neq k a b K := bool_split h

theorem ib_eqq {k : IntKind} {a b : Int} {K : AV → Prop} (h : K (.bool (a == b))) : ibinK .eql k a b K := bool_split h

theorem guard_split {c : Bool} {x y s : Prop} (h1 : c = true → x) (h2 : c = false → y) : pGuard (.bool c) (fun b => bs b x y) s := by
  cases c
  · exact h2 rfl
  · exact h1 rfl
end

theorem tyK_bool {b : Bool} {K : AV → Prop} (h : K (.bool b)) : tyK .bool (.bool b) K := by
  cases b <;> exact h

theorem op_notB {B : Base} {H : Heap} {K : AV → Heap → Prop} {b : Bool} (h : K (.bool (!b)) H) : aop B E0 H K (.not (.const (.bool b))) := by
  simp only [aop, opK, Opd.look, ob_some, pBool_bool]
  cases b <;> exact h

theorem selL {n : Nat} {H L : Heap} {L2 : List AObj} (gs : List Nat) (m : Nat) (hn : n = H.length) (hH : LowH n H) (hm : L2.length = m) (hinj : ∀ j, j < m → ∀ k, k < m → gs.getD j 0 = gs.getD k 0 → j = k)
    (h : ∀ j, j < m → L2[j]? = L[gs.getD j 0]?) (hf : ∀ o ∈ L2, flatO o) : Cln n (pick n fun j => gs.getD j 0) (H ++ L) (H ++ L2) := by
  subst hm
  refine Cln.pick hn hH _ (fun j k hj hk e => hinj j hj k hk e) fun j o hj => ?_
  have hlt : j < L2.length := by
    rcases Nat.lt_or_ge j L2.length with h' | h'
    · exact h'
    · rw [List.getElem?_eq_none h'] at hj; cases hj
  exact .inr ⟨by rw [← h j hlt]; exact hj, hf o (List.mem_of_getElem? hj)⟩

theorem ptr_rv {f : Nat → Nat} {n a b i : Nat} (h1 : f a = b) (h2 : a < n) : RV f n (.ptr (some (.new a, i))) (.ptr (some (.new b, i))) := ⟨h2, by simp [Id.ren, h1]⟩

theorem slice_rv {f : Nat → Nat} {n a b off len es : Nat} {cap : Option Nat} (h1 : f a = b) (h2 : a < n) : RV f n (.slice (.new a) off len es cap) (.slice (.new b) off len es cap) := ⟨h2, by simp [Id.ren, h1]⟩

end Go.Am
