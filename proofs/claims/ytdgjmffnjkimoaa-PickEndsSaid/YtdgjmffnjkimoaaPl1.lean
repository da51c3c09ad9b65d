/- The law PickLess: its first loop, which marks the picked. -/
import Derived.Test.YtdgjmffnjkimoaaPa1
import Derived.Test.YtdgjmffnjkimoaaAg4
namespace Go.Am
open Go

def cntOf (l : List Tab) (i : Nat) : Int := match l[i]? with
  | some t => t.count
  | none => 0
def isOf (l : List Tab) (lv : Int) (i : Nat) : Bool := match l[i]? with
  | some t => t.level == lv
  | none => false
def roomF (l : List Tab) : List Nat → Int
  | [] => 0
  | i :: r => cntOf l i + roomF l r
def upsF (l : List Tab) (lv : Int) : List Nat → Nat
  | [] => 0
  | i :: r => (if isOf l lv i then 1 else 0) + upsF l lv r

theorem wV_len' (k es : Nat) (rows : List (List AV)) : lenOf (wV k es rows) = some rows.length := by
  unfold wV; split
  · rename_i h; subst h; rfl
  · rfl

theorem tyK_bool {b : Bool} {K : AV → Prop} (h : K (.bool b)) : tyK .bool (.bool b) K := by
  cases b <;> exact h

/-- Marks. -/
def markF (N : Nat) (s : List Nat) : List Bool := (List.range N).map fun j => decide (j ∈ s)
theorem markF_len (N : Nat) (s : List Nat) : (markF N s).length = N := by simp [markF]
theorem markF_set {N i : Nat} {s : List Nat} : (markF N s).set i true = markF N (s ++ [i]) := by
  apply List.ext_getElem?
  intro j
  rw [List.getElem?_set]
  simp only [markF, List.length_map, List.length_range, List.getElem?_map]
  by_cases h : i = j
  · subst h
    rw [if_pos rfl]
    split
    · rename_i hl; rw [List.getElem?_range hl]; simp
    · rename_i hl; rw [List.getElem?_eq_none (by simp; omega)]; rfl
  · rw [if_neg h]
    rcases Nat.lt_or_ge j N with hj | hj
    · rw [List.getElem?_range hj]
      have : ¬ j = i := fun e => h e.symm
      simp [this]
    · rw [List.getElem?_eq_none (by simpa using hj)]; rfl
theorem markF_get {N j : Nat} {s : List Nat} (h : j < N) : (markF N s)[j]? = some (decide (j ∈ s)) := by
  simp [markF, List.getElem?_range h]
theorem brows_put {ms : List Bool} {i : Nat} (h : i < ms.length) : putAt (ms.map brow).flatten i [.bool true] = ((ms.set i true).map brow).flatten := by
  have e : ∀ l : List Bool, (l.map brow).flatten = l.map AV.bool := fun l => by
    induction l with
    | nil => rfl
    | cons b r ih => simp only [List.map_cons, List.flatten_cons, ih]; rfl
  rw [e, e]
  show List.take i (ms.map AV.bool) ++ [AV.bool true] ++ List.drop (i + 1) (ms.map AV.bool) = _
  rw [List.set_eq_take_append_cons_drop, if_pos h]
  simp
theorem marks_sl {B : Base} {G : Heap} {k : Nat} {ms : List Bool} {N c : Nat} (hN : ms.length = N) (hg : G[k]? = some (.arr (ms.map brow).flatten)) : Sl B G 1 (.slice (.new k) 0 N 1 (some c)) (ms.map brow) := by
  subst hN
  refine ⟨brows_len ms, .inr ⟨_, _, _, by rw [List.length_map], cellsAt_iff'.2 ⟨(ms.map brow).flatten, by simp only [cellsOf, hg], ?_, ?_⟩⟩⟩
  · rw [flatten_len (brows_len ms)]; omega
  · rw [List.drop_zero, ← flatten_len (brows_len ms), List.take_length]

section
variable {B : Base} {n : Nat} {H : Heap} {Q : AV → Heap → Prop} {l : List Tab} {x : List Nat} {lv : Nat} {x1 : AV}

theorem f4_mark (hn : n = H.length) (hH : LowH n H) (hv1 : Low n x1) (hok : ∀ t ∈ l, t.Ok) (hsz : l.length ≤ 600) (hlv : lv ≤ 2) (hcnt : ∀ t ∈ l, 1 ≤ t.count ∧ t.count ≤ 64)
    (hx : ∀ i ∈ x, ∃ t, l[i]? = some t ∧ (t.level = lv ∨ t.level = lv + 1)) (hs : x.Pairwise (· < ·)) (hxl : x.length ≤ l.length)
    (h : J4_20 B (Cl B) n (wV H.length 36 (l.map Tab.row)) x1 (.bool true) (.int .i64 ((lv : Int) + 1)) (.slice (.new (H.length + 2)) 0 l.length 1 (some l.length)) (roomF l x) (upsF l lv x : Int) (H ++ [.arr (l.map Tab.row).flatten, growO (x.map irow), .arr ((markF l.length x).map brow).flatten]) Q) :
    ∀ (rest : List Nat) (i : Nat) (pre : List Nat) (a : Int) (u : Nat), x = pre ++ rest → pre.length = i → a + roomF l rest = roomF l x → u + upsF l lv rest = upsF l lv x → (0 ≤ a ∧ a ≤ 64 * i) → u ≤ i →
      L4_8 B (Cl B) n (wV H.length 36 (l.map Tab.row)) x1 (.bool true) (growV (H.length + 1) 1 (x.map irow)) (.int .i64 ((lv : Int) + 1)) (.slice (.new (H.length + 2)) 0 l.length 1 (some l.length)) a (u : Int) (i : Int) (H ++ [.arr (l.map Tab.row).flatten, growO (x.map irow), .arr ((markF l.length pre).map brow).flatten]) Q
  | [], i, pre, a, u, e, hi, ha, hu, hab, hub => by
    rw [List.append_nil] at e
    subst e
    refine L4_8_in (ACall.cle B table) ?_
    rw [growV_len, ob_some, List.length_map]
    refine bs_dec (fun h1 => by omega) fun _ => ?_
    simp only [roomF, upsF, Int.add_zero, Nat.add_zero] at ha hu
    rw [ha, hu]; exact h
  | k :: r, i, pre, a, u, e, hi, ha, hu, hab, hub => by
    have hget : x[i]? = some k := by rw [e, List.getElem?_append_right (by omega), hi, Nat.sub_self]; rfl
    have hlt : i < x.length := by rw [e]; simp; omega
    have hkx : k ∈ x := List.mem_of_getElem? hget
    obtain ⟨t, ht, hlev⟩ := hx k hkx
    have hkl : k < l.length := by
      rcases Nat.lt_or_ge k l.length with h' | h'
      · exact h'
      · rw [List.getElem?_eq_none h'] at ht; cases ht
    have htm := List.mem_of_getElem? ht
    have hto := hok t htm
    have hc := hcnt t htm
    have hpre : ∀ j ∈ pre, j < k := fun j hj => by
      rw [e, List.pairwise_append] at hs
      exact hs.2.2 j hj k (List.mem_cons_self ..)
    have hkn : k ∉ pre := fun hm => by have := hpre k hm; omega
    have hc0 : cntOf l k = t.count := by simp only [cntOf, ht]
    generalize hG : H ++ [AObj.arr (l.map Tab.row).flatten, growO (x.map irow), .arr ((markF l.length pre).map brow).flatten] = G
    have g0 : G[H.length]? = some (.arr (l.map Tab.row).flatten) := by rw [← hG, get_app0]; rfl
    have g1 : G[H.length + 1]? = some (growO (x.map irow)) := by rw [← hG, get_app]; rfl
    have g2 : G[H.length + 2]? = some (.arr ((markF l.length pre).map brow).flatten) := by rw [← hG, get_app]; rfl
    have s6 : Sl B G 1 (growV (H.length + 1) 1 (x.map irow)) (x.map irow) := growV_sl g1 (irows_len x)
    have s9 : Sl B G 1 (.slice (.new (H.length + 2)) 0 l.length 1 (some l.length)) ((markF l.length pre).map brow) := marks_sl (markF_len _ _) g2
    have r6 : (x.map irow)[i]? = some (irow k) := by simp [hget]
    have r9 : ((markF l.length pre).map brow)[k]? = some (brow false) := by rw [List.getElem?_map, markF_get hkl]; simp [hkn]
    have i6 : i < (x.map irow).length := by simpa using hlt
    have i9 : k < ((markF l.length pre).map brow).length := by rw [List.length_map, markF_len]; exact hkl
    have p6 : peek B G (ept 1 (growV (H.length + 1) 1 (x.map irow)) i) = some (.int .i64 (k : Int)) := (s6.el r6).peek0 rfl
    refine L4_8_in (ACall.cle B table) ?_
    rw [growV_len, ob_some, List.length_map]
    refine bs_dec (fun _ => ?_) fun h1 => by omega
    refine J4_7_in (op_idx s6 i6 ?_)
    rw [p6, ob_some, pInt_int]
    refine ib_lt_no (by omega) ?_
    rw [pGuard_bool, bs_false]
    refine op_idx s6 i6 ?_
    rw [p6, ob_some, pInt_int, wV_len', ob_some, List.length_map]
    refine ib_ge_no (by omega) ?_
    rw [pGuard_bool, bs_false]
    refine op_idx s6 i6 ?_
    rw [p6, ob_some, pInt_int]
    refine op_idx s9 i9 ?_
    rw [(s9.el r9).peek0 (v := .bool false) rfl, ob_some]
    refine tyK_bool ?_
    rw [pGuard_bool, bs_false]
    have go : J4_1 B (Cl B) n (wV H.length 36 (l.map Tab.row)) x1 (.bool true) (growV (H.length + 1) 1 (x.map irow)) (.int .i64 ((lv : Int) + 1)) (.slice (.new (H.length + 2)) 0 l.length 1 (some l.length)) a (u : Int) (i : Int) (.bool false) G Q := by
      refine J4_1_in ?_
      rw [pBool_bool, if_neg (by simp)]
      refine J4_5_in (op_idx s6 i6 ?_)
      rw [p6, ob_some, pInt_int]
      refine op_idx s9 i9 ?_
      have hml : (0 + k * 1) + 1 ≤ ((markF l.length pre).map brow).flatten.length := by rw [flatten_len (brows_len _), List.length_map, markF_len]; omega
      refine op_st_arr (vs := [.bool true]) rfl rfl g2 hml ?_
      rw [show 0 + k * 1 = k from by omega, brows_put (by rw [markF_len]; exact hkl), markF_set]
      generalize hG' : G.set (H.length + 2) (.arr ((markF l.length (pre ++ [k])).map brow).flatten) = G'
      have hG2 : G' = H ++ [AObj.arr (l.map Tab.row).flatten, growO (x.map irow), .arr ((markF l.length (pre ++ [k])).map brow).flatten] := by rw [← hG', ← hG, set_app]; rfl
      have g0' : G'[H.length]? = some (.arr (l.map Tab.row).flatten) := by rw [hG2, get_app0]; rfl
      have g1' : G'[H.length + 1]? = some (growO (x.map irow)) := by rw [hG2, get_app]; rfl
      have s6' : Sl B G' 1 (growV (H.length + 1) 1 (x.map irow)) (x.map irow) := growV_sl g1' (irows_len x)
      have s0' : Sl B G' 36 (wV H.length 36 (l.map Tab.row)) (l.map Tab.row) := wV_sl g0' (tabs_len hok)
      refine J4_4_in (op_idx s6' i6 ?_)
      rw [(s6'.el r6).peek0 (v := .int .i64 (k : Int)) rfl, ob_some, pInt_int]
      refine op_idx s0' (tab_lt ht) ?_
      rw [(tab_row s0' ht).peekN hto.len, ob_some]
      refine op_alloc (op_st_last rfl hto.len ?_)
      have he : El B (G' ++ [.var t.row]) (.ptr (some (.new G'.length, 0))) t.row := El.new (by rw [get_app0]; rfl)
      have nx : ∀ u' : Nat, u' + upsF l lv r = upsF l lv x → u' ≤ i + 1 → J4_2 B (Cl B) n (wV H.length 36 (l.map Tab.row)) x1 (.bool true) (growV (H.length + 1) 1 (x.map irow)) (.int .i64 ((lv : Int) + 1)) (.slice (.new (H.length + 2)) 0 l.length 1 (some l.length)) a (u' : Int) (i : Int) (.ptr (some (.new G'.length, 0))) (G' ++ [.var t.row]) Q := fun u' hu1 hu2 => by
        refine J4_2_in (op_fld he ?_)
        rw [he.fld (v := .int .i64 t.count) rfl, ob_some, pInt_int]
        refine J4_6_in ?_
        rw [w64 (n := a + t.count) (by omega), w64 (n := (i : Int) + 1) (by omega)]
        have e2 : G' ++ [.var t.row] = H ++ [AObj.arr (l.map Tab.row).flatten, growO (x.map irow), .arr ((markF l.length (pre ++ [k])).map brow).flatten, .var t.row] := by rw [hG2, List.append_assoc]; rfl
        rw [e2]
        refine L4_8_tidy (y0 := wV H.length 36 (l.map Tab.row)) (y1 := x1) (y5 := .bool true) (y6 := growV (H.length + 1) 1 (x.map irow)) (y7 := .int .i64 ((lv : Int) + 1)) (y9 := .slice (.new (H.length + 2)) 0 l.length 1 (some l.length))
          (sel3 hn hH (a := 0) (b := 1) (c := 2) rfl (arr_flat hok) rfl (irows_flat x) rfl (brows_flat _) (by decide) (by decide) (by decide)) (wV_rv ?_ (by simp)) (low_pick (by subst hn; simp) hv1) rfl (growV_rv ?_ (by simp)) rfl ⟨?_, ?_⟩
          (f4_mark hn hH hv1 hok hsz hlv hcnt hx hs hxl h r (i + 1) (pre ++ [k]) (a + t.count) u' (by rw [e]; simp) (by simp [hi]) (by simp only [roomF, hc0] at ha; omega) hu1 (by omega) hu2)
        · rw [← hn, pick_at0]; rfl
        · rw [← hn, pick_n1]; rfl
        · simp [Id.ok]
        · simp only [Id.ren]; rw [← hn, pick_n2]; rfl
      refine J4_3_in (op_fld he ?_)
      rw [he.fld (v := .int .i64 t.level) rfl, ob_some, pInt_int, pInt_int, w64 (n := (lv : Int) + 1 - 1) (by omega)]
      simp only [upsF, isOf, ht] at hu
      refine bs_iff.2 ⟨fun h1 => ?_, fun h1 => ?_⟩
      · rw [w64 (n := (u : Int) + 1) (by omega)]
        have h2 : t.level = lv := by simp at h1; omega
        simp only [h2, beq_self_eq_true, if_true] at hu
        exact nx (u + 1) (by omega) (by omega)
      · have h2 : ¬ t.level = lv := by simp at h1; omega
        have h3 : t.level = lv + 1 := by rcases hlev with h | h; exact absurd h h2; exact h
        refine op_fld he ?_
        rw [he.fld (v := .int .i64 t.level) rfl, ob_some, pInt_int, pInt_int]
        refine bs_no (by simp [h3]) ?_
        have h4 : (t.level == (lv : Int)) = false := by simp [h2]
        simp only [h4] at hu
        exact nx u (by simpa using hu) (by omega)
    by_cases h0 : i = 0
    · subst h0
      refine ib_gt_no (by simp) ?_
      rw [pGuard_bool, bs_false]
      exact go
    · refine ib_gt_yes (by omega) ?_
      rw [pGuard_bool, bs_true]
      refine op_idx s6 i6 ?_
      rw [p6, ob_some, pInt_int]
      obtain ⟨k', hk'⟩ : ∃ k', pre[i - 1]? = some k' := ⟨_, List.getElem?_eq_getElem (by omega)⟩
      have hk2 : x[i - 1]? = some k' := by rw [e, List.getElem?_append_left (by omega)]; exact hk'
      have r6' : (x.map irow)[i - 1]? = some (irow k') := by simp [hk2]
      refine op_idx' (i := i - 1) s6 (by rw [w64 (by omega)]; omega) (by omega) ?_
      rw [(s6.el r6').peek0 (v := .int .i64 (k' : Int)) rfl, ob_some, pInt_int]
      have := hpre k' (List.mem_of_getElem? hk')
      refine ib_le_no (by omega) ?_
      exact go
end

end Go.Am
