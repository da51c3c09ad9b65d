/- The law PickEnds: the score falls by each step. -/
import Derived.Test.YtdgjmffnjkimoaaPwA
import Derived.Test.YtdgjmffnjkimoaaAg6
namespace Go.Am
open Go

def nextF (x : List Nat) (to : Int) (made : Tab) : Bool → Nat → List Tab → List Tab
  | put, _, [] => if put = true then [] else [made]
  | put, i, t :: r => if i ∈ x then nextF x to made put (i + 1) r else
    if (!put && (decide (t.level > to) || (t.level == to && gtr t.first made.first))) = true then made :: t :: nextF x to made true (i + 1) r else t :: nextF x to made put (i + 1) r
theorem next_sum {f : Tab → Int} {x : List Nat} {to : Int} {made : Tab} : ∀ (l : List Tab) (put : Bool) (i : Nat), sumF f (nextF x to made put i l) = sumF f (behL x i l) + (if put = true then 0 else f made)
  | [], put, i => by cases put <;> simp [nextF, behL, sumF]
  | t :: r, put, i => by
    have ih := fun p => next_sum (f := f) (x := x) (to := to) (made := made) r p (i + 1)
    simp only [nextF, behL]
    split
    · exact ih put
    · split
      · rename_i h
        have : put = false := by cases put <;> simp_all
        subst this
        simp only [sumF, ih true]; simp; omega
      · simp only [sumF, ih put]; omega
theorem next_all {P : Tab → Prop} {x : List Nat} {to : Int} {made : Tab} (hm : P made) : ∀ (l : List Tab) (put : Bool) (i : Nat), (∀ t ∈ l, P t) → ∀ t ∈ nextF x to made put i l, P t
  | [], put, i, _, t, ht => by
    cases put
    · simp [nextF] at ht; rw [ht]; exact hm
    · simp [nextF] at ht
  | u :: r, put, i, h, t, ht => by
    have ih := fun p => next_all (x := x) (to := to) hm r p (i + 1) fun y hy => h y (List.mem_cons_of_mem _ hy)
    have hu := h u (List.mem_cons_self ..)
    simp only [nextF] at ht
    split at ht
    · exact ih put t ht
    · split at ht
      · rcases List.mem_cons.1 ht with rfl | ht
        · exact hm
        rcases List.mem_cons.1 ht with rfl | ht
        · exact hu
        · exact ih true t ht
      · rcases List.mem_cons.1 ht with rfl | ht
        · exact hu
        · exact ih put t ht

structure Inv (l : List Tab) : Prop where
  ok : ∀ t ∈ l, t.Ok
  cnt : ∀ t ∈ l, 1 ≤ t.count
  tot : sumF Tab.count l ≤ 40000
  len : l.length ≤ 600

theorem sum_one : ∀ l : List Tab, sumF (fun _ => 1) l = l.length
  | [] => rfl
  | t :: r => by simp only [sumF, sum_one r, List.length_cons]; omega
theorem sum_nonneg {f : Tab → Int} : ∀ l : List Tab, (∀ t ∈ l, 0 ≤ f t) → 0 ≤ sumF f l
  | [], _ => by simp [sumF]
  | t :: r, h => by
    have := sum_nonneg r fun u hu => h u (List.mem_cons_of_mem _ hu)
    have := h t (List.mem_cons_self ..)
    simp only [sumF]; omega
theorem sumX_cnt {l : List Tab} : ∀ x : List Nat, sumX Tab.count l 0 x = roomF l x
  | [] => rfl
  | i :: r => by
    have e : atF Tab.count l 0 i = cntOf l i := by
      unfold atF cntOf
      rw [Nat.sub_zero]
      rcases l[i]? with _ | t <;> rfl
    simp only [sumX, roomF, sumX_cnt r, e]
theorem sumX_one {l : List Tab} : ∀ x : List Nat, (∀ i ∈ x, ∃ t, l[i]? = some t) → sumX (fun _ => 1) l 0 x = x.length
  | [], _ => rfl
  | i :: r, h => by
    obtain ⟨t, ht⟩ := h i (List.mem_cons_self ..)
    simp only [sumX, sumX_one r fun j hj => h j (List.mem_cons_of_mem _ hj), atF, Nat.sub_zero, ht, List.length_cons]; omega
theorem picked_wt2 {l : List Tab} {lv : Nat} (hlv : lv ≤ 2) (hc : ∀ t ∈ l, 1 ≤ t.count) : ∀ x : List Nat, (∀ i ∈ x, ∃ t, l[i]? = some t ∧ (t.level = lv ∨ t.level = lv + 1)) →
    sumX wt l 0 x ≥ (2 - (lv : Int)) * roomF l x + upsF l lv x ∧ x.length ≤ roomF l x
  | [], _ => by simp [sumX, roomF, upsF]
  | i :: r, h => by
    obtain ⟨ih, ih2⟩ := picked_wt2 hlv hc r fun j hj => h j (List.mem_cons_of_mem _ hj)
    obtain ⟨t, ht, hl⟩ := h i (List.mem_cons_self ..)
    have hct := hc t (List.mem_of_getElem? ht)
    simp only [sumX, roomF, upsF, atF, cntOf, isOf, Nat.sub_zero, ht, List.length_cons]
    refine ⟨?_, by omega⟩
    rw [Int.mul_add]
    rcases hl with hl | hl
    · have e : wt t = (2 - (lv : Int)) * t.count + t.count := by
        simp only [wt, hl]
        rw [below_0 hlv]
        have : (3 : Int) - lv = (2 - lv) + 1 := by omega
        rw [this, Int.mul_add, Int.mul_comm t.count (2 - (lv : Int))]; omega
      simp only [hl, beq_self_eq_true, if_true]
      omega
    · have e : wt t = (2 - (lv : Int)) * t.count := by
        simp only [wt, hl]
        rw [below_1 hlv, Int.mul_comm]
      have : (t.level == (lv : Int)) = false := by rw [hl]; simp; omega
      simp only [this]
      simp only [Bool.false_eq_true, if_false]
      omega

theorem next_inv {l : List Tab} {lv : Nat} {x : List Nat} {made : Tab} (hi : Inv l) (hp : pickL l [0, 1, 2] = some (lv, x)) (hm : made.Ok) (hl : made.level = (lv : Int) + 1) (hc : made.count = roomF l x) :
    Inv (nextF x ((lv : Int) + 1) made false 0 l) ∧ sumF wt (nextF x ((lv : Int) + 1) made false 0 l) + 1 ≤ sumF wt l ∧ 0 ≤ roomF l x ∧ roomF l x ≤ 40000 := by
  obtain ⟨h1, h2, h3, i0, h4, t0, h5, h6⟩ := pick_mem hp
  obtain ⟨hlv, _, _, _⟩ := pickL_some hp
  obtain ⟨g1, g2⟩ := picked_wt2 hlv hi.cnt x h1
  have hu := ups_pos h5 h6 x h4
  have hx1 : 1 ≤ x.length := by cases x with
    | nil => simp at h4
    | cons a b => simp
  have hin : ∀ i ∈ x, 0 ≤ i ∧ i < 0 + l.length := fun i hi => by
    obtain ⟨t, ht, _⟩ := h1 i hi
    rcases Nat.lt_or_ge i l.length with h' | h'
    · omega
    · rw [List.getElem?_eq_none h'] at ht; cases ht
  have hs := fun f => sum_split (f := f) l 0 x h2 hin
  have e0 : ∀ f : Tab → Int, sumF f (nextF x ((lv : Int) + 1) made false 0 l) = sumF f (behL x 0 l) + f made := fun f => by rw [next_sum]; simp
  have hw : wt made = (2 - (lv : Int)) * roomF l x := by
    simp only [wt, hl, hc]
    rw [below_1 hlv, Int.mul_comm]
  have hbnn : 0 ≤ sumF Tab.count (behL x 0 l) := sum_nonneg _ fun t ht => by
    obtain ⟨i, _, hi2, _⟩ := behL_mem l 0 t ht
    have := hi.cnt t (List.mem_of_getElem? hi2); omega
  have c1 := hs Tab.count
  rw [sumX_cnt] at c1
  have c2 := hs wt
  have c3 := hs fun _ => 1
  rw [sum_one, sum_one, sumX_one x fun i hi => by obtain ⟨t, ht, _⟩ := h1 i hi; exact ⟨t, ht⟩] at c3
  have c4 := e0 fun _ => 1
  rw [sum_one, sum_one] at c4
  have ht := hi.tot
  have hln := hi.len
  refine ⟨⟨next_all hm l false 0 hi.ok, next_all (by omega) l false 0 hi.cnt, ?_, by omega⟩, ?_, by omega, by omega⟩
  · rw [e0, hc]; omega
  · rw [e0, hw]; omega
theorem wt_nonneg {l : List Tab} (hi : Inv l) : 0 ≤ sumF wt l := sum_nonneg l fun t ht => by
  have := hi.cnt t ht
  exact Int.mul_nonneg (by omega) (below_b t.level).1
theorem right_inv {all : List Tab} (hok : ∀ t ∈ all, t.Ok) : Inv (rightF all) := by
  refine ⟨rightF_ok hok, fun t ht => (rightF_cnt t ht).1, ?_, rightF_len all⟩
  have : ∀ l : List Tab, (∀ t ∈ l, t.count ≤ 64) → sumF Tab.count l ≤ 64 * l.length := fun l => by
    induction l with
    | nil => intro _; simp [sumF]
    | cons t r ih =>
      intro h
      have := ih fun u hu => h u (List.mem_cons_of_mem _ hu)
      have := h t (List.mem_cons_self ..)
      simp only [sumF, List.length_cons]; omega
  have h1 := this (rightF all) fun t ht => (rightF_cnt t ht).2
  have h2 := rightF_len all
  omega

/-! ### Memory -/
theorem selL {n : Nat} {H L : Heap} {L2 : List AObj} (gs : List Nat) (m : Nat) (hn : n = H.length) (hH : LowH n H) (hm : L2.length = m) (hinj : ∀ j, j < m → ∀ k, k < m → gs.getD j 0 = gs.getD k 0 → j = k)
    (h : ∀ j, j < m → L2[j]? = L[gs.getD j 0]?) (hf : ∀ o ∈ L2, flatO o) : Cln n (pick n fun j => gs.getD j 0) (H ++ L) (H ++ L2) := by
  subst hm
  refine Cln.pick hn hH _ (fun j k hj hk e => hinj j hj k hk e) fun j o hj => ?_
  have hlt : j < L2.length := by
    rcases Nat.lt_or_ge j L2.length with h' | h'
    · exact h'
    · rw [List.getElem?_eq_none h'] at hj; cases hj
  exact .inr ⟨by rw [← h j hlt]; exact hj, hf o (List.mem_of_getElem? hj)⟩
theorem ptr_rv {f : Nat → Nat} {n a b i : Nat} (h1 : f a = b) (h2 : a < n) : RV f n (.ptr (some (.new a, i))) (.ptr (some (.new b, i))) := ⟨h2, by simp [Id.ren, h1]⟩
theorem slice_rv {f : Nat → Nat} {n a b off len es : Nat} {cap : Option Nat} (h1 : f a = b) (h2 : a < n) : RV f n (.slice (.new a) off len es cap) (.slice (.new b) off len es cap) := ⟨h2, by simp [Id.ren, h1]⟩
theorem row_flat {t : Tab} (h : t.Ok) : flatO (.var t.row) := ⟨h.ones, h.lowl⟩

end Go.Am

/- The law PickEnds: the loop that makes one table of the picked. -/
namespace Go.Am
open Go

section
variable {B : Base} {n : Nat} {H : Heap} {Q : AV → Heap → Prop} {l : List Tab} {x : List Nat} {lv : Nat} {most step : Int}

def mTab (lv : Nat) (c : Int) (ab : List UInt8 × List UInt8) : Tab := tab ((lv : Int) + 1) c ab.1 ab.2
theorem mTab_ok (lv : Nat) (c : Int) (ab : List UInt8 × List UInt8) : (mTab lv c ab).Ok := tab_ok _ _ _ _
theorem mput1 {lv : Nat} {c c2 : Int} {ab : List UInt8 × List UInt8} : putAt (mTab lv c ab).row 1 [.int .i64 c2] = (mTab lv c2 ab).row := rfl
theorem mput34 {lv : Nat} {c : Int} {a b a2 : List UInt8} : putAt (mTab lv c (a, b)).row 34 [.str a2] = (mTab lv c (a2, b)).row := put34 (by rfl)
theorem mput35 {lv : Nat} {c : Int} {a b b2 : List UInt8} : putAt (mTab lv c (a, b)).row 35 [.str b2] = (mTab lv c (a, b2)).row := put35 (by rfl)

abbrev X11 (H : Heap) (l : List Tab) : AV := .slice (.new (H.length + 3)) 0 l.length 1 (some l.length)
abbrev x10 (H : Heap) : AV := .ptr (some (.new (H.length + 2), 0))
def mem4 (l : List Tab) (x : List Nat) (m : Tab) (pre : List Nat) : List AObj := [.arr (l.map Tab.row).flatten, growO (x.map irow), .var m.row, .arr ((markF l.length pre).map brow).flatten]

/-- The made table takes one in. -/
theorem f6_take {i : Nat} {t : Tab} {c : Int} {a b : List UInt8} {pre : List Nat} {x0 x6 : AV} (ht : t.Ok)
    (h : L6_11 B (Cl B) n x0 (.bool true) most step x6 (.int .i64 ((lv : Int) + 1)) (x10 H) (X11 H l) (IntKind.i64.wrap ((i : Int) + 1)) (H ++ (mem4 l x (mTab lv (IntKind.i64.wrap (c + t.count)) (minStrs a [t.first], maxStrs b [t.last])) pre ++ [.var t.row])) Q) :
    J6_7 B (Cl B) n x0 (.bool true) most step x6 (.int .i64 ((lv : Int) + 1)) (x10 H) (X11 H l) (i : Int) (.ptr (some (.new (H.length + 4), 0))) (H ++ (mem4 l x (mTab lv c (a, b)) pre ++ [.var t.row])) Q := by
  have g : ∀ m : Tab, (H ++ (mem4 l x m pre ++ [AObj.var t.row]))[H.length + 2]? = some (.var m.row) := fun m => by rw [get_app]; rfl
  have eM : ∀ m : Tab, El B (H ++ (mem4 l x m pre ++ [.var t.row])) (x10 H) m.row := fun m => El.new (g m)
  have eT : ∀ m : Tab, El B (H ++ (mem4 l x m pre ++ [.var t.row])) (.ptr (some (.new (H.length + 4), 0))) t.row := fun m => El.new (by rw [get_app]; rfl)
  have st : ∀ m m2 : Tab, (H ++ (mem4 l x m pre ++ [AObj.var t.row])).set (H.length + 2) (.var m2.row) = H ++ (mem4 l x m2 pre ++ [AObj.var t.row]) := fun m m2 => by rw [set_app]; rfl
  generalize hm1 : mTab lv c (a, b) = m1
  have ok1 : m1.Ok := by rw [← hm1]; exact mTab_ok _ _ _
  refine J6_7_in (op_fld (eM _) ?_)
  rw [(eM m1).fld (v := .int .i64 c) (by rw [← hm1]; rfl), ob_some, pInt_int]
  refine op_fld (eT _) ?_
  rw [(eT m1).fld (v := .int .i64 t.count) rfl, ob_some, pInt_int]
  refine op_fld (eM _) ?_
  refine op_st (k := H.length + 2) (i := 0 + 1) (c := m1.row) rfl rfl (g _) (by rw [ok1.len]; decide) ?_
  rw [Nat.zero_add, ← hm1, mput1, st]
  generalize hm2 : mTab lv (IntKind.i64.wrap (c + t.count)) (a, b) = m2
  have ok2 : m2.Ok := by rw [← hm2]; exact mTab_ok _ _ _
  refine J6_6_in (op_fld (eM _) ?_)
  rw [(eM m2).fld (v := .str a) (by rw [← hm2]; exact (mTab_ok _ _ _).r34), ob_some, pStr_str]
  refine op_fld (eT _) ?_
  rw [(eT m2).fld ht.r34, ob_some, pStr_str]
  refine op_fld (eM _) ?_
  refine op_st (k := H.length + 2) (i := 0 + 34) (c := m2.row) rfl rfl (g _) (by rw [ok2.len]; decide) ?_
  rw [Nat.zero_add, ← hm2, mput34, st]
  generalize hm3 : mTab lv (IntKind.i64.wrap (c + t.count)) (minStrs a [t.first], b) = m3
  have ok3 : m3.Ok := by rw [← hm3]; exact mTab_ok _ _ _
  refine J6_5_in (op_fld (eM _) ?_)
  rw [(eM m3).fld (v := .str b) (by rw [← hm3]; exact (mTab_ok _ _ _).r35), ob_some, pStr_str]
  refine op_fld (eT _) ?_
  rw [(eT m3).fld ht.r35, ob_some, pStr_str]
  refine op_fld (eM _) ?_
  refine op_st (k := H.length + 2) (i := 0 + 35) (c := m3.row) rfl rfl (g _) (by rw [ok3.len]; decide) ?_
  rw [Nat.zero_add, ← hm3, mput35, st]
  exact h

theorem mem4_flat {m : Tab} {pre : List Nat} (hok : ∀ t ∈ l, t.Ok) (hm : m.Ok) : ∀ o ∈ mem4 l x m pre, flatO o := fun o ho => by
  simp only [mem4, List.mem_cons, List.not_mem_nil, or_false] at ho
  rcases ho with rfl | rfl | rfl | rfl
  · exact arr_flat hok
  · exact irows_flat x
  · exact row_flat hm
  · exact brows_flat _

theorem f6_made {a0 b0 : List UInt8} (hn : n = H.length) (hH : LowH n H) (hok : ∀ t ∈ l, t.Ok) (hsz : l.length ≤ 600) (hin : ∀ i ∈ x, i < l.length) (hxl : x.length ≤ l.length) (hcnt : ∀ t ∈ l, 1 ≤ t.count) (hroom : roomF l x ≤ 40000)
    (h : J6_22 B (Cl B) n (wV H.length 36 (l.map Tab.row)) (.bool true) most step (.int .i64 ((lv : Int) + 1)) (x10 H) (X11 H l) (H ++ mem4 l x (mTab lv (roomF l x) (rangeF l x a0 b0)) x) Q) :
    ∀ (rest : List Nat) (i : Nat) (pre : List Nat) (c : Int) (a b : List UInt8), x = pre ++ rest → pre.length = i → c + roomF l rest = roomF l x → 0 ≤ c → rangeF l rest a b = rangeF l x a0 b0 → 
      L6_11 B (Cl B) n (wV H.length 36 (l.map Tab.row)) (.bool true) most step (growV (H.length + 1) 1 (x.map irow)) (.int .i64 ((lv : Int) + 1)) (x10 H) (X11 H l) (i : Int) (H ++ mem4 l x (mTab lv c (a, b)) pre) Q
  | [], i, pre, c, a, b, e, hi, hc, hc0, hr => by
    rw [List.append_nil] at e
    subst e
    refine L6_11_in (ACall.cle B table) ?_
    rw [growV_len, ob_some, List.length_map]
    refine bs_dec (fun h1 => by omega) fun _ => ?_
    simp only [roomF, Int.add_zero, rangeF] at hc hr
    rw [← hr, ← hc] at h
    exact h
  | k :: r, i, pre, c, a, b, e, hi, hc, hc0, hr => by
    have hget : x[i]? = some k := by rw [e, List.getElem?_append_right (by omega), hi, Nat.sub_self]; rfl
    have hlt : i < x.length := by rw [e]; simp; omega
    have hkx : k ∈ x := List.mem_of_getElem? hget
    have hkl := hin k hkx
    have ht : l[k]? = some l[k] := List.getElem?_eq_getElem hkl
    have hto := hok _ (List.getElem_mem hkl)
    have hct := hcnt _ (List.getElem_mem hkl)
    generalize l[k] = t at ht hto hct
    have hrn : 0 ≤ roomF l r := by
      have : ∀ y : List Nat, 0 ≤ roomF l y := fun y => by
        induction y with
        | nil => exact Int.le_refl _
        | cons j y ih =>
          have : 0 ≤ cntOf l j := by
            unfold cntOf
            cases e : l[j]? with
            | none => exact Int.le_refl _
            | some t => have := hcnt t (List.mem_of_getElem? e); simp only; omega
          simp only [roomF]; omega
      exact this r
    have hc1 : cntOf l k = t.count := by simp only [cntOf, ht]
    simp only [roomF, hc1] at hc
    have hok4 := mTab_ok lv c (a, b)
    generalize hG : H ++ mem4 l x (mTab lv c (a, b)) pre = G
    have s6 : Sl B G 1 (growV (H.length + 1) 1 (x.map irow)) (x.map irow) := growV_sl (by rw [← hG, get_app]; rfl) (irows_len x)
    have s0 : ∀ {L}, Sl B (G ++ L) 36 (wV H.length 36 (l.map Tab.row)) (l.map Tab.row) := fun {L} => (wV_sl (by rw [← hG, get_app0]; rfl) (tabs_len hok)).pre
    have r6 : (x.map irow)[i]? = some (irow k) := by simp [hget]
    have i6 : i < (x.map irow).length := by simpa using hlt
    have p6 : ∀ {L}, peek B (G ++ L) (ept 1 (growV (H.length + 1) 1 (x.map irow)) i) = some (.int .i64 (k : Int)) := fun {L} => (s6.pre.el r6).peek0 rfl
    have p6' : peek B G (ept 1 (growV (H.length + 1) 1 (x.map irow)) i) = some (.int .i64 (k : Int)) := (s6.el r6).peek0 rfl
    refine L6_11_in (ACall.cle B table) ?_
    rw [growV_len, ob_some, List.length_map]
    refine bs_dec (fun _ => J6_10_in (op_idx s6 i6 ?_)) fun h1 => absurd (by omega) h1
    rw [p6', ob_some, pInt_int]
    refine bs_no (by simp) (op_idx s6 i6 ?_)
    rw [p6', ob_some, pInt_int, wV_len', ob_some, List.length_map]
    refine ib_ge_no (by omega) (J6_4_in ?_)
    rw [pBool_bool, if_neg (by simp)]
    refine J6_9_in (op_idx s6 i6 ?_)
    rw [p6', ob_some, pInt_int]
    have s0' : Sl B G 36 (wV H.length 36 (l.map Tab.row)) (l.map Tab.row) := wV_sl (by rw [← hG, get_app0]; rfl) (tabs_len hok)
    refine op_idx s0' (tab_lt ht) ?_
    rw [(tab_row s0' ht).peekN hto.len, ob_some]
    refine op_alloc (op_st_last rfl hto.len ?_)
    have hGl : G.length = H.length + 4 := by rw [← hG]; simp [mem4]
    rw [hGl]
    refine J6_8_in (op_idx s6.pre i6 ?_)
    rw [p6, ob_some, pInt_int]
    have g3 : (G ++ [.var t.row])[H.length + 3]? = some (.arr ((markF l.length pre).map brow).flatten) := by rw [← hG, List.append_assoc, get_app]; rfl
    have s11 : Sl B (G ++ [.var t.row]) 1 (X11 H l) ((markF l.length pre).map brow) := marks_sl (markF_len _ _) g3
    refine op_idx s11 (by rw [List.length_map, markF_len]; exact hkl) ?_
    have hml : (0 + k * 1) + 1 ≤ ((markF l.length pre).map brow).flatten.length := by rw [flatten_len (brows_len _), List.length_map, markF_len]; omega
    refine op_st_arr (vs := [.bool true]) rfl rfl g3 hml ?_
    have e3 : (G ++ [AObj.var t.row]).set (H.length + 3) (.arr ((markF l.length (pre ++ [k])).map brow).flatten) = H ++ (mem4 l x (mTab lv c (a, b)) (pre ++ [k]) ++ [.var t.row]) := by
      rw [← hG, List.append_assoc, set_app]; rfl
    rw [show 0 + k * 1 = k from by omega, brows_put (by rw [markF_len]; exact hkl), markF_set, e3]
    refine f6_take hto ?_
    rw [w64 (n := c + t.count) (by omega), w64 (n := (i : Int) + 1) (by omega)]
    have hok5 := mTab_ok lv (c + t.count) (minStrs a [t.first], maxStrs b [t.last])
    refine L6_11_tidy (y0 := wV H.length 36 (l.map Tab.row)) (y3 := .bool true) (y6 := growV (H.length + 1) 1 (x.map irow)) (y7 := .int .i64 ((lv : Int) + 1)) (y10 := x10 H) (y11 := X11 H l)
      (selL [0, 1, 2, 3] 4 (L2 := mem4 l x (mTab lv (c + t.count) (minStrs a [t.first], maxStrs b [t.last])) (pre ++ [k])) hn hH rfl (by decide) ?_ (mem4_flat hok hok5)) (wV_rv ?_ (by simp [mem4])) rfl (growV_rv ?_ (by simp [mem4])) rfl (ptr_rv ?_ (by simp [mem4])) (slice_rv ?_ (by simp [mem4]))
      (f6_made hn hH hok hsz hin hxl hcnt hroom h r (i + 1) (pre ++ [k]) (c + t.count) _ _ (by rw [e]; simp) (by simp [hi]) (by omega) (by omega) (by simp only [rangeF, ht] at hr; exact hr))
    · intro j hj
      have : j = 0 ∨ j = 1 ∨ j = 2 ∨ j = 3 := by omega
      rcases this with rfl | rfl | rfl | rfl <;> rfl
    · rw [← hn, pick_at0]; rfl
    · rw [← hn, pick_at]; rfl
    · rw [← hn, pick_at]; rfl
    · rw [← hn, pick_at]; rfl
end

end Go.Am

/- The law PickEnds: the loop that puts the made table in its place. -/
namespace Go.Am
open Go

section
variable {B : Base} {n : Nat} {H : Heap} {Q : AV → Heap → Prop} {l : List Tab} {x : List Nat} {lv : Nat} {most step : Int} {m : Tab}

abbrev mem5 (l : List Tab) (x : List Nat) (m : Tab) (acc : List Tab) : List AObj := mem4 l x m x ++ [.arr (acc.map Tab.row).flatten]
theorem mem5_flat {acc : List Tab} (hok : ∀ t ∈ l, t.Ok) (hm : m.Ok) (ha : ∀ t ∈ acc, t.Ok) : ∀ o ∈ mem5 l x m acc, flatO o := fun o ho => by
  rcases List.mem_append.1 ho with ho | ho
  · exact mem4_flat hok hm o ho
  · rw [List.mem_singleton.1 ho]; exact arr_flat ha

/-- Append of a table to what comes next. -/
theorem f6_app {acc : List Tab} {t : Tab} {k : Nat} {L : List AObj} {K : AV → Heap → Prop} (hk : k ≥ 4) (hg : (H ++ (mem4 l x m x ++ L))[H.length + k]? = some (.arr (acc.map Tab.row).flatten)) (hacc : ∀ t ∈ acc, t.Ok) (ht : t.Ok) (hal : acc.length ≤ 2000)
    (h : ∀ L', L'.length = L.length + 1 → K (wV (H.length + (5 + L.length)) 36 ((acc ++ [t]).map Tab.row)) (H ++ (mem4 l x m x ++ (L' ++ [.arr ((acc ++ [t]).map Tab.row).flatten])))) :
    ob (layParts [(.int .i64 0), (.int .i64 0), (.int .u8 0), (.int .u8 0), (.int .u8 0), (.int .u8 0), (.int .u8 0), (.int .u8 0), (.int .u8 0), (.int .u8 0), (.int .u8 0), (.int .u8 0), (.int .u8 0), (.int .u8 0), (.int .u8 0), (.int .u8 0), (.int .u8 0), (.int .u8 0), (.int .u8 0), (.int .u8 0), (.int .u8 0), (.int .u8 0), (.int .u8 0), (.int .u8 0), (.int .u8 0), (.int .u8 0), (.int .u8 0), (.int .u8 0), (.int .u8 0), (.int .u8 0), (.int .u8 0), (.int .u8 0), (.int .u8 0), (.int .u8 0), (.str []), (.str [])] [(0, 36, .agg t.row)]) fun c => slK (H ++ (mem4 l x m x ++ L)) 36 1 c fun v H' => aop B E0 H' K (.append 36 80 (.const (wV (H.length + k) 36 (acc.map Tab.row))) (.const v)) := by
  rw [lay_row (n := 36) (by rfl) ht.len, ob_some]
  have hkl : H.length + k < (H ++ (mem4 l x m x ++ L)).length := lt_of_get hg
  simp only [List.length_append, mem4, List.length_cons, List.length_nil] at hkl
  refine slK_in (op_appendE (k := H.length + k) (rows1 := acc.map Tab.row) (get_pre hg) (tabs_len hacc) (sl_row1 ht.len) (by simp) (by simp [maxBytes]; omega) fun o => ?_)
  have e : acc.map Tab.row ++ [t.row] = (acc ++ [t]).map Tab.row := by simp
  have e3 : (H ++ (mem4 l x m x ++ L) ++ [AObj.arr t.row]).length = H.length + (5 + L.length) := by simp [mem4]; omega
  have e4 : (mem4 l x m x ++ (L ++ [AObj.arr t.row])).set k o = mem4 l x m x ++ (L ++ [AObj.arr t.row]).set (k - 4) o := by
    rw [List.set_append_right _ _ (by simp [mem4]; omega)]; rfl
  have e2 : (H ++ (mem4 l x m x ++ L) ++ [AObj.arr t.row]).set (H.length + k) o ++ [.arr ((acc ++ [t]).map Tab.row).flatten] = H ++ (mem4 l x m x ++ ((L ++ [AObj.arr t.row]).set (k - 4) o ++ [.arr ((acc ++ [t]).map Tab.row).flatten])) := by
    rw [List.append_assoc, List.append_assoc, set_app, e4]; simp
  rw [e, e2, e3]
  exact h _ (by simp)

theorem app_at {L' : List AObj} {o : AObj} {d : Nat} (hd : L'.length = d) : (H ++ (mem4 l x m x ++ (L' ++ [o])))[H.length + (4 + d)]? = some o := by
  rw [get_app, List.getElem?_append_right (by simp [mem4])]
  have : 4 + d - (mem4 l x m x).length = d := by simp [mem4]
  rw [this, List.getElem?_append_right (by omega)]
  have : d - L'.length = 0 := by omega
  rw [this]; rfl
theorem f6_tidy {acc : List Tab} {L' : List AObj} {d i : Nat} {put : Bool} (hn : n = H.length) (hH : LowH n H) (hok : ∀ t ∈ l, t.Ok) (hm : m.Ok) (hacc : ∀ t ∈ acc, t.Ok) (hd : L'.length = d)
    (h : L6_17 B (Cl B) n (wV H.length 36 (l.map Tab.row)) (.bool true) most step (.int .i64 ((lv : Int) + 1)) (x10 H) (X11 H l) (wV (H.length + 4) 36 (acc.map Tab.row)) put (i : Int) (H ++ mem5 l x m acc) Q) :
    L6_17 B (Cl B) n (wV H.length 36 (l.map Tab.row)) (.bool true) most step (.int .i64 ((lv : Int) + 1)) (x10 H) (X11 H l) (wV (H.length + (4 + d)) 36 (acc.map Tab.row)) put (i : Int) (H ++ (mem4 l x m x ++ (L' ++ [.arr (acc.map Tab.row).flatten]))) Q := by
  refine L6_17_tidy (y0 := wV H.length 36 (l.map Tab.row)) (y3 := .bool true) (y7 := .int .i64 ((lv : Int) + 1)) (y10 := x10 H) (y11 := X11 H l) (y14 := wV (H.length + 4) 36 (acc.map Tab.row))
    (selL [0, 1, 2, 3, 4 + d] 5 (L2 := mem5 l x m acc) hn hH rfl ?_ ?_ (mem5_flat hok hm hacc)) (wV_rv ?_ (by simp [mem4])) rfl rfl (ptr_rv ?_ (by simp [mem4])) (slice_rv ?_ (by simp [mem4])) (wV_rv ?_ (by simp [mem4])) h
  · intro j hj k hk e
    have hj' : j = 0 ∨ j = 1 ∨ j = 2 ∨ j = 3 ∨ j = 4 := by omega
    have hk' : k = 0 ∨ k = 1 ∨ k = 2 ∨ k = 3 ∨ k = 4 := by omega
    rcases hj' with rfl | rfl | rfl | rfl | rfl <;> rcases hk' with rfl | rfl | rfl | rfl | rfl <;> simp at e ⊢ <;> omega
  · intro j hj
    have hj' : j = 0 ∨ j = 1 ∨ j = 2 ∨ j = 3 ∨ j = 4 := by omega
    rcases hj' with rfl | rfl | rfl | rfl | rfl
    · rfl
    · rfl
    · rfl
    · rfl
    · have := app_at (H := []) (l := l) (x := x) (m := m) (o := AObj.arr (acc.map Tab.row).flatten) hd
      simp only [List.nil_append, List.length_nil, Nat.zero_add] at this
      show _ = (mem4 l x m x ++ (L' ++ [.arr (acc.map Tab.row).flatten]))[4 + d]?
      rw [this]; rfl
  · rw [← hn, pick_at0]; rfl
  · rw [← hn, pick_at]; rfl
  · rw [← hn, pick_at]; rfl
  · rw [← hn, pick_at]; rfl

theorem f6_next (hn : n = H.length) (hH : LowH n H) (hok : ∀ t ∈ l, t.Ok) (hm : m.Ok) (hml : m.level = (lv : Int) + 1) (hsz : l.length ≤ 600)
    (h : ∀ L, J6_18 B (Cl B) n (.bool true) most step (wV (H.length + (4 + L.length)) 36 ((nextF x ((lv : Int) + 1) m false 0 l).map Tab.row)) (H ++ (mem4 l x m x ++ (L ++ [.arr ((nextF x ((lv : Int) + 1) m false 0 l).map Tab.row).flatten]))) Q) :
    ∀ (rest : List Tab) (i : Nat) (acc : List Tab) (put : Bool), l.drop i = rest → i ≤ l.length → (∀ t ∈ acc, t.Ok) → acc.length ≤ i + put.toNat → acc ++ nextF x ((lv : Int) + 1) m put i rest = nextF x ((lv : Int) + 1) m false 0 l →
      L6_17 B (Cl B) n (wV H.length 36 (l.map Tab.row)) (.bool true) most step (.int .i64 ((lv : Int) + 1)) (x10 H) (X11 H l) (wV (H.length + 4) 36 (acc.map Tab.row)) put (i : Int) (H ++ mem5 l x m acc) Q
  | [], i, acc, put, hd, hil, hacc, hal, ha => by
    have hpt : put.toNat ≤ 1 := Bool.toNat_le put
    have gA : (H ++ mem5 l x m acc)[H.length + 4]? = some (.arr (acc.map Tab.row).flatten) := by rw [get_app]; rfl
    have eM : ∀ {L}, El B (H ++ (mem4 l x m x ++ L)) (x10 H) m.row := fun {L} => El.new (by rw [get_app]; rfl)
    refine L6_17_in (ACall.cle B table) ?_
    rw [wV_len', ob_some, List.length_map]
    have hl := drop_nil hd
    refine bs_dec (fun h1 => by omega) fun _ => J6_19_in ?_
    cases put with
    | true =>
      simp only [nextF, if_true, List.append_nil] at ha
      rw [bs_true, ha]
      have := h []
      simpa using this
    | false =>
      simp only [nextF] at ha
      rw [if_neg (by simp)] at ha
      rw [bs_false, eM.peekN hm.len, ob_some]
      refine f6_app (k := 4) (L := [.arr (acc.map Tab.row).flatten]) (by omega) gA hacc hm (by omega) fun L' hL' => ?_
      rw [ha]
      have := h L'
      rw [hL'] at this
      exact this
  | t :: r, i, acc, put, hd, hil, hacc, hal, ha => by
    obtain ⟨hget, hlt, hd'⟩ := drop_cons hd
    have ht : t.Ok := hok t (List.mem_of_getElem? hget)
    have hpt : put.toNat ≤ 1 := Bool.toNat_le put
    have s0 : ∀ {L}, Sl B (H ++ (mem4 l x m x ++ L)) 36 (wV H.length 36 (l.map Tab.row)) (l.map Tab.row) := fun {L} => wV_sl (by rw [get_app0]; rfl) (tabs_len hok)
    have s11 : ∀ {L}, Sl B (H ++ (mem4 l x m x ++ L)) 1 (X11 H l) ((markF l.length x).map brow) := fun {L} => marks_sl (markF_len _ _) (by rw [get_app]; rfl)
    have r11 : ((markF l.length x).map brow)[i]? = some (brow (decide (i ∈ x))) := by rw [List.getElem?_map, markF_get hlt]; rfl
    have eM : ∀ {L}, El B (H ++ (mem4 l x m x ++ L)) (x10 H) m.row := fun {L} => El.new (by rw [get_app]; rfl)
    have gA : (H ++ mem5 l x m acc)[H.length + 4]? = some (.arr (acc.map Tab.row).flatten) := by rw [get_app]; rfl
    refine L6_17_in (ACall.cle B table) ?_
    rw [wV_len', ob_some, List.length_map]
    refine bs_dec (fun _ => J6_16_in (op_idx s11 (by rw [List.length_map, markF_len]; exact hlt) ?_)) fun h1 => absurd (by omega) h1
    rw [(s11.el r11).peek0 (v := .bool (decide (i ∈ x))) rfl, ob_some, pBool_bool]
    simp only [nextF] at ha
    refine bs_dec (fun hi => J6_15_in ?_) fun hi => ?_
    · rw [if_pos hi] at ha
      rw [w64 (n := (i : Int) + 1) (by omega)]
      exact f6_next hn hH hok hm hml hsz h r (i + 1) acc put hd' (by omega) hacc (by omega) ha
    · rw [if_neg hi] at ha
      -- behind the choice
      have last : ∀ (put' : Bool) (acc' : List Tab) (L : List AObj) (k : Nat), k ≥ 4 → (H ++ (mem4 l x m x ++ L))[H.length + k]? = some (.arr (acc'.map Tab.row).flatten) → (∀ t ∈ acc', t.Ok) → acc'.length ≤ i + put'.toNat →
          acc' ++ t :: nextF x ((lv : Int) + 1) m put' (i + 1) r = nextF x ((lv : Int) + 1) m false 0 l →
          J6_13 B (Cl B) n (wV H.length 36 (l.map Tab.row)) (.bool true) most step (.int .i64 ((lv : Int) + 1)) (x10 H) (X11 H l) (wV (H.length + k) 36 (acc'.map Tab.row)) put' (i : Int) (H ++ (mem4 l x m x ++ L)) Q := fun put' acc' L k hk hg hacc' hal' ha' => by
        have hpt' : put'.toNat ≤ 1 := Bool.toNat_le put'
        refine J6_13_in (op_idx s0 (tab_lt hget) ?_)
        rw [(tab_row s0 hget).peekN ht.len, ob_some]
        refine f6_app hk hg hacc' ht (by omega) fun L' hL' => J6_15_in ?_
        rw [w64 (n := (i : Int) + 1) (by omega)]
        have e : 5 + L.length = 4 + (L.length + 1) := by omega
        rw [e]
        have hok2 := ok_app hacc' fun u hu => by rw [List.mem_singleton.1 hu]; exact ht
        exact f6_tidy hn hH hok hm hok2 hL' (f6_next hn hH hok hm hml hsz h r (i + 1) (acc' ++ [t]) put' hd' (by omega) hok2 (by simp; omega) (by simpa using ha'))
      have choose : ∀ c : Bool, c = (!put && (decide (t.level > (lv : Int) + 1) || (t.level == (lv : Int) + 1 && gtr t.first m.first))) →
          J6_12 B (Cl B) n (wV H.length 36 (l.map Tab.row)) (.bool true) most step (.int .i64 ((lv : Int) + 1)) (x10 H) (X11 H l) (wV (H.length + 4) 36 (acc.map Tab.row)) put (i : Int) (.bool c) (H ++ mem5 l x m acc) Q := fun c hc => by
        rw [← hc] at ha
        refine J6_12_in ?_
        rw [pBool_bool]
        by_cases hc1 : c = true
        · rw [if_pos hc1] at ha ⊢
          have hp0 : put = false := by
            cases put with
            | false => rfl
            | true => rw [hc1] at hc; exact absurd hc (by simp)
          subst hp0
          rw [eM.peekN hm.len, ob_some]
          refine f6_app (k := 4) (L := [.arr (acc.map Tab.row).flatten]) (by omega) gA hacc hm (by omega) fun L' hL' => ?_
          have hok2 := ok_app hacc fun u hu => by rw [List.mem_singleton.1 hu]; exact hm
          simp only [Bool.toNat_false, Nat.add_zero] at hal
          exact last true (acc ++ [m]) _ _ (by omega) (app_at (d := 2) hL') hok2 (by simp; omega) (by simpa using ha)
        · rw [if_neg hc1] at ha ⊢
          exact last put acc _ 4 (by omega) gA hacc hal ha
      have e0 : El B (H ++ mem5 l x m acc) (ept 36 (wV H.length 36 (l.map Tab.row)) i) t.row := tab_row s0 hget
      have p0 : peek B (H ++ mem5 l x m acc) (fpt (ept 36 (wV H.length 36 (l.map Tab.row)) i) 0) = some (.int .i64 t.level) := e0.fld rfl
      refine J6_14_in (op_notB (guard_split (fun hp => ?_) fun hp => choose false (by rw [hp]; rfl)))
      refine op_idx s0 (tab_lt hget) (op_fld e0 ?_)
      rw [p0, ob_some, pInt_int, pInt_int]
      refine ib_gt (guard_split (fun h1 => choose true (by rw [hp]; simp only [h1]; rfl)) fun h1 => ?_)
      refine op_idx s0 (tab_lt hget) (op_fld e0 ?_)
      rw [p0, ob_some, pInt_int, pInt_int]
      refine ib_eqq (guard_split (fun h2 => ?_) fun h2 => choose false (by rw [hp]; simp only [h1, h2]; rfl))
      refine op_idx s0 (tab_lt hget) (op_fld e0 ?_)
      rw [e0.fld ht.r34, ob_some, pStr_str]
      refine op_fld eM ?_
      rw [eM.fld hm.r34, ob_some, pStr_str]
      exact sb_gt (choose _ (by rw [hp]; simp only [h1, h2]; simp))
end

end Go.Am

/- The law PickEnds, walked. -/
namespace Go.Am
open Go

section
variable {B : Base} {n : Nat} {H : Heap} {Q : AV → Heap → Prop} {most : Int}

theorem f6_caps {G : Heap} {x0 : AV} {l : List Tab} (h0 : Sl B G 36 x0 (l.map Tab.row)) (hsz : l.length ≤ 600) (hp : pickL l [0, 1, 2] = none) (h : tidyK n Q (.bool true) G) : L6_1 B (Cl B) n x0 (.bool true) (0) G Q := by
  have go : ∀ k lv : Nat, lv + k = 3 → L6_1 B (Cl B) n x0 (.bool true) (lv : Int) G Q := fun k => by
    induction k with
    | zero =>
      intro lv hlv
      refine L6_1_in (ACall.cle B table) (bs_dec (fun h1 => by omega) fun _ => J6_2_in h)
    | succ k ih =>
      intro lv hlv
      refine L6_1_in (ACall.cle B table) (bs_dec (fun _ => J6_0_in ?_) fun h1 => by omega)
      refine f17_ok h0 (by omega) ?_
      rw [pInt_int]
      refine f14_ok ?_
      rw [pInt_int]
      have := many_not.1 (pickL_none.1 hp lv (by omega))
      refine bs_no (by simp; omega) ?_
      rw [w64 (n := (lv : Int) + 1) (by omega)]
      exact ih (lv + 1) (by omega)
  exact go 3 0 rfl

theorem op_alloc' {z : List AV} {K : AV → Heap → Prop} (hk : K (.ptr (some (.new H.length, 0))) (H ++ [.var z])) : aop B E0 H K (.alloc z) := hk

/-- The made table, at first. -/
theorem f6_begin {l : List Tab} {x : List Nat} {lv i0 : Nat} {t0 : Tab} {step : Int} {xr : List Nat} (hok : ∀ t ∈ l, t.Ok) (hx0 : x = i0 :: xr) (ht : l[i0]? = some t0) (hto : t0.Ok)
    (h : J6_24 B (Cl B) n (wV H.length 36 (l.map Tab.row)) (.bool true) most step (growV (H.length + 1) 1 (x.map irow)) (.int .i64 ((lv : Int) + 1)) (x10 H) (H ++ [.arr (l.map Tab.row).flatten, growO (x.map irow), .var (mTab lv 0 (t0.first, t0.last)).row]) Q) :
    J6_25 B (Cl B) n (wV H.length 36 (l.map Tab.row)) (.bool true) most step (growV (H.length + 1) 1 (x.map irow)) (.int .i64 ((lv : Int) + 1)) (H ++ [.arr (l.map Tab.row).flatten, growO (x.map irow)]) Q := by
  generalize hG : H ++ [AObj.arr (l.map Tab.row).flatten, growO (x.map irow)] = G
  have hGl : G.length = H.length + 2 := by rw [← hG]; simp
  have s6 : Sl B G 1 (growV (H.length + 1) 1 (x.map irow)) (x.map irow) := growV_sl (by rw [← hG, get_app]; rfl) (irows_len x)
  have s0 : Sl B G 36 (wV H.length 36 (l.map Tab.row)) (l.map Tab.row) := wV_sl (by rw [← hG, get_app0]; rfl) (tabs_len hok)
  have r6 : (x.map irow)[0]? = some (irow i0) := by rw [hx0]; rfl
  have i6 : 0 < (x.map irow).length := by rw [hx0]; simp
  have e0 := tab_row s0 ht
  have p6 : peek B G (ept 1 (growV (H.length + 1) 1 (x.map irow)) 0) = some (.int .i64 (i0 : Int)) := (s6.el r6).peek0 rfl
  have p6' : ∀ {L}, peek B (G ++ L) (ept 1 (growV (H.length + 1) 1 (x.map irow)) 0) = some (.int .i64 (i0 : Int)) := fun {L} => (s6.pre.el r6).peek0 rfl
  have e0' : ∀ {L}, El B (G ++ L) (ept 36 (wV H.length 36 (l.map Tab.row)) i0) t0.row := fun {L} => tab_row s0.pre ht
  have hlay : layParts [(.int .i64 0), (.int .i64 0), (.int .u8 0), (.int .u8 0), (.int .u8 0), (.int .u8 0), (.int .u8 0), (.int .u8 0), (.int .u8 0), (.int .u8 0), (.int .u8 0), (.int .u8 0), (.int .u8 0), (.int .u8 0), (.int .u8 0), (.int .u8 0), (.int .u8 0), (.int .u8 0), (.int .u8 0), (.int .u8 0), (.int .u8 0), (.int .u8 0), (.int .u8 0), (.int .u8 0), (.int .u8 0), (.int .u8 0), (.int .u8 0), (.int .u8 0), (.int .u8 0), (.int .u8 0), (.int .u8 0), (.int .u8 0), (.int .u8 0), (.int .u8 0), (.str []), (.str [])] [(0, 1, .int .i64 ((lv : Int) + 1)), (34, 1, .str t0.first), (35, 1, .str t0.last)] = some (mTab lv 0 (t0.first, t0.last)).row := by kernel_rfl
  refine J6_25_in (op_idx' s6 (i := 0) rfl i6 ?_)
  rw [p6, ob_some, pInt_int]
  refine op_idx s0 (tab_lt ht) (op_fld e0 ?_)
  rw [e0.fld hto.r34, ob_some, pStr_str]
  refine op_idx' s6 (i := 0) rfl i6 ?_
  rw [p6, ob_some, pInt_int]
  refine op_idx s0 (tab_lt ht) (op_fld e0 ?_)
  rw [e0.fld hto.r35, ob_some, pStr_str, hlay, ob_some]
  have hok0 := mTab_ok lv 0 (t0.first, t0.last)
  refine op_alloc ⟨rfl, ?_, op_fld e0' rfl, op_idx s0.pre (tab_lt ht) rfl, ?_, op_idx' s6.pre (i := 0) rfl i6 rfl, rfl, rfl, ?_, op_fld e0' rfl, op_idx s0.pre (tab_lt ht) rfl, ?_, op_idx' s6.pre (i := 0) rfl i6 rfl, rfl, rfl, rfl, ?_⟩
  · rw [e0'.fld hto.r35, ob_some, pStr_str]
  · rw [p6', ob_some, pInt_int]
  · rw [e0'.fld hto.r34, ob_some, pStr_str]
  · rw [p6', ob_some, pInt_int]
  · refine op_st_last rfl hok0.len ?_
    rw [hGl, ← hG, List.append_assoc]
    exact h

theorem f6_step (hn : n = H.length) (hH : LowH n H) (h : Q (.bool true) H) (hmost : most ≤ 9000000000000) : ∀ (k : Nat) (l : List Tab) (step : Nat), Inv l → sumF wt l = k → (k : Int) + step ≤ most →
    L6_30 B (Cl B) n (wV H.length 36 (l.map Tab.row)) (.bool true) most (step : Int) (H ++ [.arr (l.map Tab.row).flatten]) Q
  | k, l, step, hi, hk, hst => by
    have s0 : Sl B (H ++ [.arr (l.map Tab.row).flatten]) 36 (wV H.length 36 (l.map Tab.row)) (l.map Tab.row) := wV_sl (by rw [get_app0]; rfl) (tabs_len hi.ok)
    have hl600 := hi.len
    refine L6_30_in (ACall.cle B table) (bs_dec (fun _ => J6_29_in ?_) fun h1 => by omega)
    refine f10_ok s0 hi.ok (by omega) (fun hp => ?_) fun lv x hx => ?_
    · refine op_ext3 live_nils (J6_27_in ?_)
      rw [pBool_bool, bs_false]
      exact f6_caps s0 hl600 hp (tidy_drop hn hH low_bool h)
    · obtain ⟨hxm, hxs, hxl, i1, hi1, _⟩ := pick_mem hx
      have hin : ∀ i ∈ x, i < l.length := fun i hi => by
        obtain ⟨t, ht, _⟩ := hxm i hi
        rcases Nat.lt_or_ge i l.length with h' | h'
        · exact h'
        · rw [List.getElem?_eq_none h'] at ht; cases ht
      obtain ⟨i0, xr, hx0⟩ : ∃ i r, x = i :: r := by
        cases x with
        | nil => simp at hi1
        | cons i r => exact ⟨i, r, rfl⟩
      have hi0 : i0 ∈ x := by rw [hx0]; simp
      have hl0 := hin i0 hi0
      have hg0 : l[i0]? = some l[i0] := List.getElem?_eq_getElem hl0
      have ht0 := hi.ok _ (List.getElem_mem hl0)
      generalize l[i0] = t0 at hg0 ht0
      refine op_ext3 (fun K hK => growV_live _ _ _ K hK) (J6_27_in ?_)
      rw [pBool_bool, bs_true]
      have e : (H ++ [AObj.arr (l.map Tab.row).flatten]).length = H.length + 1 := by simp
      rw [e, List.append_assoc]
      have s6 : Sl B (H ++ ([.arr (l.map Tab.row).flatten] ++ [growO (x.map irow)])) 1 (growV (H.length + 1) 1 (x.map irow)) (x.map irow) := growV_sl (by rw [get_app]; rfl) (irows_len x)
      have r6 : (x.map irow)[0]? = some (irow i0) := by rw [hx0]; rfl
      have i6 : 0 < (x.map irow).length := by rw [hx0]; simp
      have p6 : peek B (H ++ ([.arr (l.map Tab.row).flatten] ++ [growO (x.map irow)])) (ept 1 (growV (H.length + 1) 1 (x.map irow)) 0) = some (.int .i64 (i0 : Int)) := (s6.el r6).peek0 rfl
      refine J6_26_in ?_
      rw [growV_len, ob_some, List.length_map]
      refine bs_no (by rw [hx0]; simp; omega) (op_idx' s6 (i := 0) rfl i6 ?_)
      rw [p6, ob_some, pInt_int]
      refine bs_no (by simp) (op_idx' s6 (i := 0) rfl i6 ?_)
      rw [p6, ob_some, pInt_int, wV_len', ob_some, List.length_map]
      refine ib_ge_no (by omega) (J6_3_in ?_)
      rw [pBool_bool, if_neg (by simp)]
      refine f6_begin hi.ok hx0 hg0 ht0 (J6_24_in ?_)
      rw [wV_len', ob_some, List.length_map]
      refine op_make (m := l.length) rfl (by simp [maxBytes]; omega) (by simp [maxInt]; omega) ?_
      have e2 : (H ++ [AObj.arr (l.map Tab.row).flatten, growO (x.map irow), .var (mTab lv 0 (t0.first, t0.last)).row]).length = H.length + 3 := by simp
      rw [e2, mark0, List.append_assoc]
      generalize hab : rangeF l x t0.first t0.last = ab
      obtain ⟨hinv, hfall, hr0, hr1⟩ := next_inv (made := mTab lv (roomF l x) ab) hi hx (mTab_ok _ _ _) rfl rfl
      have hnn := wt_nonneg hinv
      refine J6_23_in (f6_made (a0 := t0.first) (b0 := t0.last) (lv := lv) hn hH hi.ok hl600 hin hxl hi.cnt hr1 (J6_22_in ?_) x 0 [] 0 t0.first t0.last rfl rfl (by omega) (by omega) rfl)
      rw [hab, show layParts [] [] = some [] from rfl, ob_some]
      have e3 : (H ++ mem4 l x (mTab lv (roomF l x) ab) x).length = H.length + 4 := by simp [mem4]
      refine slK_in (J6_21_in (J6_20_in ?_))
      rw [e3, List.append_assoc]
      refine f6_next (m := mTab lv (roomF l x) ab) hn hH hi.ok (mTab_ok _ _ _) rfl hl600 (fun L => ?_) l 0 [] false rfl (by omega) (fun t ht => by simp at ht) (by simp) rfl
      generalize hl2 : nextF x ((lv : Int) + 1) (mTab lv (roomF l x) ab) false 0 l = l2 at *
      refine J6_18_in (J6_28_in ?_)
      rw [w64 (n := (step : Int) + 1) (by omega)]
      obtain ⟨k2, hk2⟩ : ∃ k2 : Nat, sumF wt l2 = k2 := ⟨(sumF wt l2).toNat, by omega⟩
      refine L6_30_tidy (y0 := wV H.length 36 (l2.map Tab.row)) (y3 := .bool true) (selL [4 + L.length] 1 (L2 := [.arr (l2.map Tab.row).flatten]) hn hH rfl (fun j hj k hk _ => by omega) ?_ fun o ho => ?_) (wV_rv ?_ (by simp)) rfl ?_
      · intro j hj
        have : j = 0 := by omega
        subst this
        have := app_at (H := []) (l := l) (x := x) (m := mTab lv (roomF l x) ab) (o := AObj.arr (l2.map Tab.row).flatten) (L' := L) rfl
        simp only [List.nil_append, List.length_nil, Nat.zero_add] at this
        exact this.symm
      · rw [List.mem_singleton.1 ho]; exact arr_flat hinv.ok
      · rw [← hn, pick_at0]; rfl
      · exact f6_step hn hH h hmost k2 l2 (step + 1) hinv hk2 (by omega)
  termination_by k => k
  decreasing_by omega
end

theorem f6_ok {B : Base} {H : Heap} {Q : AV → Heap → Prop} {v : AV} {all : List Tab} (hs : Sl B H 36 v (all.map Tab.row)) (hok : ∀ t ∈ all, t.Ok) (h : Q (.bool true) H) : Cl B 6 [v] H Q := by
  refine f6_in fun n cl hn hcl hH hA => J6_32_in ?_
  subst hcl
  refine f9_ok (tyK_bool ?_)
  refine f16_ok hs hok ?_
  have hi := right_inv hok
  have hc := @rightF_cnt all
  generalize rightF all = l at hi hc
  have hl := hi.len
  refine wV_live _ _ _ _ (f12_ok (wV_sl (by rw [get_app0]; rfl) (tabs_len hi.ok)) hi.ok (by omega) ?_)
  have hsc := score_plain (m := 64) (by omega) (by omega) l 0 (fun t ht => by have := hc t ht; omega) (by omega) (by omega)
  have hnn := wt_nonneg hi
  have hmx : sumF wt l ≤ 64 * 3 * 600 := by
    have : ∀ l : List Tab, (∀ t ∈ l, 1 ≤ t.count ∧ t.count ≤ 64) → sumF wt l ≤ 192 * l.length := fun l => by
      induction l with
      | nil => intro _; simp [sumF]
      | cons t r ih =>
        intro h
        have h1 := ih fun u hu => h u (List.mem_cons_of_mem _ hu)
        have h2 := h t (List.mem_cons_self ..)
        have h3 := (wt_b (t := t) (m := 64) (by omega)).2
        simp only [sumF, List.length_cons]; omega
    have := this l hc
    omega
  rw [pInt_int, hsc]
  obtain ⟨k, hk⟩ : ∃ k : Nat, sumF wt l = k := ⟨(sumF wt l).toNat, by omega⟩
  exact f6_step hn hH h (by omega) k l 0 hi hk (by omega)

end Go.Am
