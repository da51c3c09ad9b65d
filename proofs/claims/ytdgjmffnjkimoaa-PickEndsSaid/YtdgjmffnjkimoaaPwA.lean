/- The law PickWhole: its first loop, which keeps tables that overlap none ahead of theirs. -/
import Derived.Test.YtdgjmffnjkimoaaPl4
import Derived.Test.YtdgjmffnjkimoaaAg5
namespace Go.Am
open Go

def apartB (t u : Tab) : Bool := t.level == 0 || (u.level != t.level || (sLess u.last t.first || gtr u.first t.last))
def keepF : List Tab → List Tab → List Tab
  | kept, [] => kept
  | kept, t :: r => if kept.all (apartB t) = true then keepF (kept ++ [t]) r else keepF kept r

section
variable {a b : List UInt8} {K : AV → Prop}
theorem bool_split {c : Bool} {K : AV → Prop} (h : K (.bool c)) : bs c (K (.bool true)) (K (.bool false)) := by cases c <;> exact h
theorem sb_lt (h : K (.bool (sLess a b))) : sbinK .lss a b K := bool_split h
theorem sb_gt (h : K (.bool (gtr a b))) : sbinK .gtr a b K := bool_split h
theorem sb_ge (h : K (.bool (!(sLess a b)))) : sbinK .geq a b K := bool_split h
end
theorem ib_neq {k : IntKind} {a b : Int} {K : AV → Prop} (h : K (.bool (a != b))) : ibinK .neq k a b K := bool_split h
theorem ib_eqq {k : IntKind} {a b : Int} {K : AV → Prop} (h : K (.bool (a == b))) : ibinK .eql k a b K := bool_split h
theorem guard_split {c : Bool} {x y s : Prop} (h1 : c = true → x) (h2 : c = false → y) : pGuard (.bool c) (fun b => bs b x y) s := by
  cases c
  · exact h2 rfl
  · exact h1 rfl

section
variable {B : Base} {n : Nat} {H : Heap} {Q : AV → Heap → Prop} {l : List Tab}

/-- Does it overlap one that is kept? -/
theorem f5_free {G : Heap} {x0 x4 : AV} {kept : List Tab} {i : Nat} {t : Tab} (h0 : Sl B G 36 x0 (kept.map Tab.row)) (h4 : Sl B G 36 x4 (l.map Tab.row)) (hk : ∀ u ∈ kept, u.Ok) (ht : t.Ok) (hget : l[i]? = some t) (hsz : kept.length ≤ 600)
    (h : J5_3 B (Cl B) n x0 (.bool true) x4 (i : Int) (.bool (kept.all (apartB t))) G Q) :
    ∀ (rest : List Tab) (k : Nat) (f : Bool), kept.drop k = rest → (f && rest.all (apartB t)) = kept.all (apartB t) → L5_2 B (Cl B) n x0 (.bool true) x4 (i : Int) (.bool f) (k : Int) G Q
  | [], k, f, hd, hf => by
    refine L5_2_in (ACall.cle B table) ?_
    rw [h0.len, ob_some, List.length_map]
    refine bs_dec (fun h1 => absurd (drop_nil hd) (by omega)) fun _ => ?_
    simp only [List.all_nil, Bool.and_true] at hf
    rw [hf]; exact h
  | u :: r, k, f, hd, hf => by
    obtain ⟨hgu, hlt, hd'⟩ := drop_cons hd
    have hu : u.Ok := hk u (List.mem_of_getElem? hgu)
    refine L5_2_in (ACall.cle B table) ?_
    rw [h0.len, ob_some, List.length_map]
    refine bs_dec (fun _ => J5_1_in ?_) fun h1 => absurd (by omega) h1
    have nx : ∀ f', f' = (f && apartB t u) → J5_0 B (Cl B) n x0 (.bool true) x4 (i : Int) (.bool f') (k : Int) G Q := fun f' e => by
      refine J5_0_in ?_
      rw [w64 (n := (k : Int) + 1) (by omega)]
      refine f5_free h0 h4 hk ht hget hsz h r (k + 1) f' hd' ?_
      rw [e, ← hf]
      simp only [List.all_cons, Bool.and_assoc]
    refine guard_split (fun hf1 => ?_) fun hf1 => nx false (by rw [hf1]; rfl)
    have e4 := tab_row h4 hget
    have e0 := tab_row h0 hgu
    have p0 : peek B G (fpt (ept 36 x4 i) 0) = some (.int .i64 t.level) := e4.fld rfl
    refine op_idx h4 (tab_lt hget) (op_fld e4 ?_)
    rw [p0, ob_some, pInt_int]
    refine ib_eqq (guard_split (fun h1 => nx true (by rw [hf1]; simp [apartB, h1])) fun h1 => ?_)
    refine op_idx h0 (tab_lt hgu) (op_fld e0 ?_)
    rw [e0.fld (v := .int .i64 u.level) rfl, ob_some, pInt_int]
    refine op_idx h4 (tab_lt hget) (op_fld e4 ?_)
    rw [p0, ob_some, pInt_int]
    refine ib_neq (guard_split (fun h2 => nx true (by rw [hf1]; simp [apartB, h2])) fun h2 => ?_)
    refine op_idx h0 (tab_lt hgu) (op_fld e0 ?_)
    rw [e0.fld hu.r35, ob_some, pStr_str]
    refine op_idx h4 (tab_lt hget) (op_fld e4 ?_)
    rw [e4.fld ht.r34, ob_some, pStr_str]
    refine sb_lt (guard_split (fun h3 => nx true (by rw [hf1]; simp [apartB, h3])) fun h3 => ?_)
    refine op_idx h0 (tab_lt hgu) (op_fld e0 ?_)
    rw [e0.fld hu.r34, ob_some, pStr_str]
    refine op_idx h4 (tab_lt hget) (op_fld e4 ?_)
    rw [e4.fld ht.r35, ob_some, pStr_str]
    refine sb_gt (nx _ ?_)
    rw [hf1]; simp [apartB, h1, h2, h3]

theorem f5_keep (hn : n = H.length) (hH : LowH n H) (hok : ∀ t ∈ l, t.Ok) (hsz : l.length ≤ 600)
    (h : J5_33 B (Cl B) n (growV (H.length + 1) 36 ((keepF [] l).map Tab.row)) (.bool true) (H ++ [.arr (l.map Tab.row).flatten, growO ((keepF [] l).map Tab.row)]) Q) :
    ∀ (rest : List Tab) (i : Nat) (acc : List Tab), l.drop i = rest → (∀ t ∈ acc, t.Ok) → acc.length ≤ i → keepF acc rest = keepF [] l →
      L5_7 B (Cl B) n (growV (H.length + 1) 36 (acc.map Tab.row)) (.bool true) (wV H.length 36 (l.map Tab.row)) (i : Int) (H ++ [.arr (l.map Tab.row).flatten, growO (acc.map Tab.row)]) Q
  | [], i, acc, hd, hacc, hal, ha => by
    have hl := drop_nil hd
    refine L5_7_in (ACall.cle B table) ?_
    rw [wV_len', ob_some, List.length_map]
    refine bs_dec (fun h1 => by omega) fun _ => ?_
    simp only [keepF] at ha
    rw [ha]; exact h
  | t :: r, i, acc, hd, hacc, hal, ha => by
    obtain ⟨hget, hlt, hd'⟩ := drop_cons hd
    have ht : t.Ok := hok t (List.mem_of_getElem? hget)
    generalize hG : H ++ [AObj.arr (l.map Tab.row).flatten, growO (acc.map Tab.row)] = G
    have s4 : Sl B G 36 (wV H.length 36 (l.map Tab.row)) (l.map Tab.row) := wV_sl (by rw [← hG, get_app0]; rfl) (tabs_len hok)
    have s0 : Sl B G 36 (growV (H.length + 1) 36 (acc.map Tab.row)) (acc.map Tab.row) := growV_sl (by rw [← hG, get_app]; rfl) (tabs_len hacc)
    refine L5_7_in (ACall.cle B table) ?_
    rw [wV_len', ob_some, List.length_map]
    refine bs_dec (fun _ => ?_) fun h1 => by omega
    refine J5_6_in (J5_4_in (f5_free s0 s4 hacc ht hget (by omega) (J5_3_in ?_) acc 0 true rfl (by simp)))
    rw [pBool_bool]
    simp only [keepF] at ha
    by_cases hm : acc.all (apartB t) = true
    · rw [if_pos hm] at ha
      rw [if_pos hm]
      refine op_idx s4 (tab_lt hget) ?_
      rw [(tab_row s4 hget).peekN ht.len, ob_some, lay_row (n := 36) (by rfl) ht.len, ob_some]
      refine slK_in (op_appendW (k := H.length + 1) (rows1 := acc.map Tab.row) (by rw [← hG, List.append_assoc, get_app]; rfl) (tabs_len hacc) (sl_row1 ht.len) (by simp) (by simp [maxBytes]; omega) ?_)
      have e : acc.map Tab.row ++ [t.row] = (acc ++ [t]).map Tab.row := by simp
      have hacc' : ∀ t' ∈ acc ++ [t], t'.Ok := ok_app hacc fun u hu => by rw [List.mem_singleton.1 hu]; exact ht
      have e2 : (G ++ [AObj.arr t.row]).set (H.length + 1) .gone ++ [growO ((acc ++ [t]).map Tab.row)]
          = H ++ [AObj.arr (l.map Tab.row).flatten, .gone, .arr t.row, growO ((acc ++ [t]).map Tab.row)] := by
        rw [← hG, List.append_assoc, set_app]; simp
      have e3 : (G ++ [AObj.arr t.row]).length = H.length + 3 := by rw [← hG]; simp
      rw [e, e2, e3]
      refine J5_5_in ?_
      rw [w64 (n := (i : Int) + 1) (by omega)]
      refine L5_7_tidy (y0 := growV (H.length + 1) 36 ((acc ++ [t]).map Tab.row)) (y3 := .bool true) (y4 := wV H.length 36 (l.map Tab.row))
        (sel2 hn hH (a := 0) (b := 3) rfl (arr_flat hok) rfl (tabs_flat hacc') (by decide)) (growV_rv ?_ (by simp)) rfl (wV_rv ?_ (by simp))
        (f5_keep hn hH hok hsz h r (i + 1) (acc ++ [t]) hd' hacc' (by simp; omega) ha)
      · rw [← hn, pick_n1]; rfl
      · rw [← hn, pick_at0]; rfl
    · rw [if_neg hm] at ha
      rw [if_neg hm]
      refine J5_5_in ?_
      rw [w64 (n := (i : Int) + 1) (by omega), ← hG]
      exact f5_keep hn hH hok hsz h r (i + 1) acc hd' hacc (by omega) ha
end

end Go.Am

/- The law PickWhole: its other loops. -/
namespace Go.Am
open Go

section
variable {B : Base} {n : Nat} {Q : AV → Heap → Prop} {l : List Tab} {x : List Nat} {lv : Nat} {x0 x8 : AV} {G : Heap}

theorem f5_in_bounds {x9 : AV} (h0 : Sl B G 36 x0 (l.map Tab.row)) (h8 : Sl B G 1 x8 (x.map irow)) (hx : ∀ i ∈ x, i < l.length) (hxl : x.length ≤ 600) (h : J5_29 B (Cl B) n x0 (.bool true) x8 x9 G Q) :
    ∀ (rest : List Nat) (i : Nat), x.drop i = rest → L5_13 B (Cl B) n x0 (.bool true) x8 x9 (i : Int) G Q
  | [], i, hd => by
    refine L5_13_in (ACall.cle B table) ?_
    rw [h8.len, ob_some, List.length_map]
    exact bs_dec (fun h1 => absurd (drop_nil hd) (by omega)) fun _ => h
  | k :: r, i, hd => by
    obtain ⟨hget, hlt, hd'⟩ := drop_cons hd
    have hk := hx k (List.mem_of_getElem? hget)
    have hrow : (x.map irow)[i]? = some (irow k) := by simp [hget]
    have i8 : i < (x.map irow).length := by simpa using hlt
    have p8 : peek B G (ept 1 x8 i) = some (.int .i64 (k : Int)) := (h8.el hrow).peek0 rfl
    refine L5_13_in (ACall.cle B table) ?_
    rw [h8.len, ob_some, List.length_map]
    refine bs_dec (fun _ => J5_12_in (op_idx h8 i8 ?_)) fun h1 => absurd (by omega) h1
    rw [p8, ob_some, pInt_int]
    refine bs_no (by simp) (op_idx h8 i8 ?_)
    rw [p8, ob_some, pInt_int, h0.len, ob_some, List.length_map]
    refine ib_ge_no (by omega) (J5_11_in ?_)
    rw [pBool_bool, if_neg (by simp), w64 (n := (i : Int) + 1) (by omega)]
    exact f5_in_bounds h0 h8 hx hxl h r (i + 1) hd'

abbrev mk5 (G : Heap) (l : List Tab) : AV := .slice (.new G.length) 0 l.length 1 (some l.length)

theorem f5_one {x9 : AV} {a b : List UInt8} {u : Int} {i k : Nat} {t : Tab} {G : Heap} {x13 : AV} (s0 : Sl B G 36 x0 (l.map Tab.row)) (s8 : Sl B G 1 x8 (x.map irow)) (hget : x[i]? = some k) (ht : l[k]? = some t) (hto : t.Ok)
    (h : J5_14 B (Cl B) n x0 (.bool true) x8 x9 x13 (minStrs a [t.first]) (maxStrs b [t.last]) u (i : Int) (.bool (t.level == 0)) G Q) : J5_17 B (Cl B) n x0 (.bool true) x8 x9 x13 a b u (i : Int) G Q := by
  have r8 : (x.map irow)[i]? = some (irow k) := by simp [hget]
  have i8 : i < (x.map irow).length := by
    rcases Nat.lt_or_ge i (x.map irow).length with h' | h'
    · exact h'
    · rw [List.getElem?_eq_none h'] at r8; cases r8
  have p8 : peek B G (ept 1 x8 i) = some (.int .i64 (k : Int)) := (s8.el r8).peek0 rfl
  have e0 := tab_row s0 ht
  refine J5_17_in (op_idx s8 i8 ?_)
  rw [p8, ob_some, pInt_int]
  refine op_idx s0 (tab_lt ht) (op_fld e0 ?_)
  rw [e0.fld hto.r34, ob_some, pStr_str]
  refine J5_16_in (op_idx s8 i8 ?_)
  rw [p8, ob_some, pInt_int]
  refine op_idx s0 (tab_lt ht) (op_fld e0 ?_)
  rw [e0.fld hto.r35, ob_some, pStr_str]
  refine J5_15_in (op_idx s8 i8 ?_)
  rw [p8, ob_some, pInt_int]
  refine op_idx s0 (tab_lt ht) (op_fld e0 ?_)
  rw [e0.fld (v := .int .i64 t.level) rfl, ob_some, pInt_int]
  exact ib_eqq h

theorem f5_mark {x9 : AV} {a0 b0 : List UInt8} (h0 : Sl B G 36 x0 (l.map Tab.row)) (h8 : Sl B G 1 x8 (x.map irow)) (hok : ∀ t ∈ l, t.Ok) (hx : ∀ i ∈ x, i < l.length) (hxl : x.length ≤ 600)
    (h : J5_25 B (Cl B) n x0 (.bool true) x9 (mk5 G l) (rangeF l x a0 b0).1 (rangeF l x a0 b0).2 (upsF l 0 x : Int) (G ++ [.arr ((markF l.length x).map brow).flatten]) Q) :
    ∀ (rest : List Nat) (i : Nat) (pre : List Nat) (a b : List UInt8) (u : Nat), x = pre ++ rest → pre.length = i → rangeF l rest a b = rangeF l x a0 b0 → u + upsF l 0 rest = upsF l 0 x → u ≤ i →
      L5_20 B (Cl B) n x0 (.bool true) x8 x9 (mk5 G l) a b (u : Int) (i : Int) (G ++ [.arr ((markF l.length pre).map brow).flatten]) Q
  | [], i, pre, a, b, u, e, hi, hr, hu, hub => by
    rw [List.append_nil] at e
    subst e
    refine L5_20_in (ACall.cle B table) ?_
    rw [h8.len, ob_some, List.length_map]
    refine bs_dec (fun h1 => by omega) fun _ => ?_
    simp only [rangeF, upsF, Nat.add_zero] at hr hu
    rw [← hr] at h
    rw [hu]; exact h
  | k :: r, i, pre, a, b, u, e, hi, hr, hu, hub => by
    have hget : x[i]? = some k := by rw [e, List.getElem?_append_right (by omega), hi, Nat.sub_self]; rfl
    have hlt : i < x.length := by rw [e]; simp; omega
    have hkx : k ∈ x := List.mem_of_getElem? hget
    have hkl := hx k hkx
    have ht : l[k]? = some l[k] := List.getElem?_eq_getElem hkl
    have hto := hok _ (List.getElem_mem hkl)
    generalize l[k] = t at ht hto
    have s8 : ∀ {L}, Sl B (G ++ L) 1 x8 (x.map irow) := fun {L} => h8.pre
    have s0 : ∀ {L}, Sl B (G ++ L) 36 x0 (l.map Tab.row) := fun {L} => h0.pre
    have r8 : (x.map irow)[i]? = some (irow k) := by simp [hget]
    have i8 : i < (x.map irow).length := by simpa using hlt
    have p8 : ∀ {L}, peek B (G ++ L) (ept 1 x8 i) = some (.int .i64 (k : Int)) := fun {L} => (s8.el r8).peek0 rfl
    have s13 : Sl B (G ++ [.arr ((markF l.length pre).map brow).flatten]) 1 (mk5 G l) ((markF l.length pre).map brow) := marks_sl (markF_len _ _) (by rw [get_app0]; rfl)
    refine L5_20_in (ACall.cle B table) ?_
    rw [h8.len, ob_some, List.length_map]
    refine bs_dec (fun _ => J5_19_in (op_idx s8 i8 ?_)) fun h1 => absurd (by omega) h1
    rw [p8, ob_some, pInt_int]
    refine op_idx s13 (by rw [List.length_map, markF_len]; exact hkl) ?_
    have hml : (0 + k * 1) + 1 ≤ ((markF l.length pre).map brow).flatten.length := by rw [flatten_len (brows_len _), List.length_map, markF_len]; omega
    refine op_st_arr (vs := [.bool true]) rfl rfl (by rw [get_app0]; rfl) hml ?_
    rw [show 0 + k * 1 = k from by omega, brows_put (by rw [markF_len]; exact hkl), markF_set, set_app0, List.set_cons_zero]
    refine f5_one s0 s8 hget ht hto (J5_14_in ?_)
    rw [pBool_bool]
    have nx : ∀ u' : Nat, u' + upsF l 0 r = upsF l 0 x → u' ≤ i + 1 → J5_18 B (Cl B) n x0 (.bool true) x8 x9 (mk5 G l) (minStrs a [t.first]) (maxStrs b [t.last]) (u' : Int) (i : Int) (G ++ [.arr ((markF l.length (pre ++ [k])).map brow).flatten]) Q := fun u' hu1 hu2 => by
      refine J5_18_in ?_
      rw [w64 (n := (i : Int) + 1) (by omega)]
      exact f5_mark h0 h8 hok hx hxl h r (i + 1) (pre ++ [k]) _ _ u' (by rw [e]; simp) (by simp [hi]) (by simp only [rangeF, ht] at hr; exact hr) hu1 hu2
    simp only [upsF, isOf, ht] at hu
    by_cases h1 : (t.level == 0) = true
    · rw [if_pos h1, w64 (n := (u : Int) + 1) (by omega)]
      simp only [h1, if_true] at hu
      exact nx (u + 1) (by omega) (by omega)
    · rw [if_neg h1]
      rw [if_neg h1] at hu
      exact nx u (by simpa using hu) (by omega)

theorem f5_clear {x9 : Int} {a b : List UInt8} {u : Int} (h0 : Sl B G 36 x0 (l.map Tab.row)) (hok : ∀ t ∈ l, t.Ok) (hsz : l.length ≤ 600)
    (hc : ∀ i t, l[i]? = some t → i ∉ x → t.level = x9 → ((sLess t.first b || t.first == b) && !(sLess t.last a)) = false)
    (h : J5_24 B (Cl B) n x0 (.bool true) (.int .i64 x9) u (G ++ [.arr ((markF l.length x).map brow).flatten]) Q) :
    ∀ (rest : List Tab) (i : Nat), l.drop i = rest → L5_23 B (Cl B) n x0 (.bool true) (.int .i64 x9) (mk5 G l) a b u (i : Int) (G ++ [.arr ((markF l.length x).map brow).flatten]) Q
  | [], i, hd => by
    refine L5_23_in (ACall.cle B table) ?_
    rw [h0.len, ob_some, List.length_map]
    exact bs_dec (fun h1 => absurd (drop_nil hd) (by omega)) fun _ => h
  | t :: r, i, hd => by
    obtain ⟨hget, hlt, hd'⟩ := drop_cons hd
    have ht := hok t (List.mem_of_getElem? hget)
    have s0 : Sl B (G ++ [.arr ((markF l.length x).map brow).flatten]) 36 x0 (l.map Tab.row) := h0.pre
    have s13 : Sl B (G ++ [.arr ((markF l.length x).map brow).flatten]) 1 (mk5 G l) ((markF l.length x).map brow) := marks_sl (markF_len _ _) (by rw [get_app0]; rfl)
    have r13 : ((markF l.length x).map brow)[i]? = some (brow (decide (i ∈ x))) := by rw [List.getElem?_map, markF_get hlt]; rfl
    have e0 := tab_row s0 hget
    refine L5_23_in (ACall.cle B table) ?_
    rw [h0.len, ob_some, List.length_map]
    refine bs_dec (fun _ => J5_22_in (op_idx s13 (by rw [List.length_map, markF_len]; exact hlt) ?_)) fun h1 => absurd (by omega) h1
    have nx : J5_21 B (Cl B) n x0 (.bool true) (.int .i64 x9) (mk5 G l) a b u (i : Int) (.bool false) (G ++ [.arr ((markF l.length x).map brow).flatten]) Q := by
      refine J5_21_in ?_
      rw [pBool_bool, if_neg (by simp), w64 (n := (i : Int) + 1) (by omega)]
      exact f5_clear h0 hok hsz hc h r (i + 1) hd'
    rw [(s13.el r13).peek0 (v := .bool (decide (i ∈ x))) rfl, ob_some, pBool_bool]
    refine bs_dec (fun _ => nx) fun hi => ?_
    refine op_idx s0 (tab_lt hget) (op_fld e0 ?_)
    rw [e0.fld (v := .int .i64 t.level) rfl, ob_some, pInt_int, pInt_int]
    refine bs_iff.2 ⟨fun h1 => ?_, fun _ => nx⟩
    have hcc := hc i t hget hi (by simpa using h1)
    refine op_idx s0 (tab_lt hget) (op_fld e0 ?_)
    rw [e0.fld ht.r34, ob_some, pStr_str]
    refine bs_iff.2 ⟨fun h2 => ?_, fun _ => nx⟩
    refine op_idx s0 (tab_lt hget) (op_fld e0 ?_)
    rw [e0.fld ht.r35, ob_some, pStr_str]
    refine sb_ge ?_
    rw [h2, Bool.true_and] at hcc
    rw [hcc]; exact nx

theorem f5_caps (h0 : Sl B G 36 x0 (l.map Tab.row)) (hsz : l.length ≤ 600) (hp : pickL l [0, 1, 2] = none) (h : tidyK n Q (.bool true) G) : L5_9 B (Cl B) n x0 (.bool true) (0) G Q := by
  have go : ∀ k lv : Nat, lv + k = 3 → L5_9 B (Cl B) n x0 (.bool true) (lv : Int) G Q := fun k => by
    induction k with
    | zero =>
      intro lv hlv
      refine L5_9_in (ACall.cle B table) (bs_dec (fun h1 => by omega) fun _ => J5_10_in h)
    | succ k ih =>
      intro lv hlv
      refine L5_9_in (ACall.cle B table) (bs_dec (fun _ => J5_8_in ?_) fun h1 => by omega)
      refine f17_ok h0 (by omega) ?_
      rw [pInt_int]
      refine f14_ok ?_
      rw [pInt_int]
      have := many_not.1 (pickL_none.1 hp lv (by omega))
      refine bs_no (by simp; omega) ?_
      rw [w64 (n := (lv : Int) + 1) (by omega)]
      exact ih (lv + 1) (by omega)
  exact go 3 0 rfl
end

end Go.Am

/- The law PickWhole: nobody is left in the way. -/
namespace Go.Am
open Go

/-! ### Texts in order -/
theorem sLess_cons (x y : UInt8) (a b : List UInt8) : sLess (x :: a) (y :: b) = (decide (x < y) || (x == y && sLess a b)) := rfl
theorem sLess_trans : ∀ {a b c : List UInt8}, sLess a b = true → sLess b c = true → sLess a c = true
  | [], [], _, h, _ => by simp [sLess, Op.bytesLess] at h
  | [], _ :: _, [], _, h => by simp [sLess, Op.bytesLess] at h
  | [], _ :: _, _ :: _, _, _ => rfl
  | _ :: _, [], _, h, _ => by simp [sLess, Op.bytesLess] at h
  | _ :: _, _ :: _, [], _, h => by simp [sLess, Op.bytesLess] at h
  | x :: a, y :: b, z :: c, h1, h2 => by
    rw [sLess_cons] at h1 h2 ⊢
    simp only [Bool.or_eq_true, decide_eq_true_eq, Bool.and_eq_true, beq_iff_eq] at h1 h2 ⊢
    rcases h1 with h1 | ⟨rfl, h1⟩
    · rcases h2 with h2 | ⟨rfl, h2⟩
      · exact .inl (UInt8.lt_trans h1 h2)
      · exact .inl h1
    · rcases h2 with h2 | ⟨rfl, h2⟩
      · exact .inl h2
      · exact .inr ⟨rfl, sLess_trans h1 h2⟩
/-- a is b or ahead of it. -/
def Le (a b : List UInt8) : Prop := sLess b a = false
theorem Le.refl (a : List UInt8) : Le a a := sLess_irrefl a
theorem lt_or_le (a b : List UInt8) : sLess a b = true ∨ Le b a := by
  unfold Le; cases sLess a b <;> simp
theorem Le.eq {a b : List UInt8} (h : Le a b) : sLess a b = true ∨ a = b := by
  have := sLess_total a b
  rw [h] at this
  simpa using this
theorem lt_le {a b : List UInt8} (h : sLess a b = true) : Le a b := by
  unfold Le
  cases e : sLess b a with
  | false => rfl
  | true =>
    have := sLess_trans h e
    rw [sLess_irrefl] at this; cases this
theorem Le.trans {a b c : List UInt8} (h1 : Le a b) (h2 : Le b c) : Le a c := by
  rcases h1.eq with h1 | rfl
  · rcases h2.eq with h2 | rfl
    · exact lt_le (sLess_trans h1 h2)
    · exact lt_le h1
  · exact h2
theorem Le.not_lt {a b : List UInt8} (h : Le a b) (h2 : sLess b a = true) : False := by
  unfold Le at h; rw [h] at h2; cases h2
theorem leB_iff {a b : List UInt8} : (sLess a b || a == b) = true ↔ Le a b := by
  rw [sLess_total]; unfold Le; cases sLess b a <;> simp
theorem gtr_iff {a b : List UInt8} : gtr a b = true ↔ sLess b a = true := by
  unfold gtr; rw [sLess_total]; cases sLess b a <;> simp
theorem geB_iff {a b : List UInt8} : (!(sLess a b)) = true ↔ Le b a := by
  unfold Le; cases sLess a b <;> simp

/-! ### The range of the picked -/
theorem min_or (a b : List UInt8) : minStrs a [b] = a ∨ minStrs a [b] = b := by
  simp only [minStrs]; split
  · exact .inl rfl
  · exact .inr rfl
theorem min_le (a b : List UInt8) : Le (minStrs a [b]) a ∧ Le (minStrs a [b]) b := by
  rw [min_if]
  split
  · rename_i h; exact ⟨lt_le h, Le.refl _⟩
  · rename_i h; exact ⟨Le.refl _, by unfold Le; simpa using h⟩
theorem max_ge (a b : List UInt8) : Le a (maxStrs a [b]) ∧ Le b (maxStrs a [b]) := by
  rw [max_if]
  split
  · rename_i h; exact ⟨lt_le (gtr_iff.1 h), Le.refl _⟩
  · rename_i h
    refine ⟨Le.refl _, ?_⟩
    unfold Le
    cases e : sLess a b with
    | false => rfl
    | true => exact absurd (gtr_iff.2 e) h
theorem range_all {l : List Tab} : ∀ (own : List Nat) (a b : List UInt8), (∀ i ∈ own, i < l.length) → Le (rangeF l own a b).1 a ∧ Le b (rangeF l own a b).2 ∧ ∀ i ∈ own, ∀ t, l[i]? = some t → Le (rangeF l own a b).1 t.first ∧ Le t.last (rangeF l own a b).2
  | [], a, b, _ => ⟨Le.refl _, Le.refl _, fun i hi => by simp at hi⟩
  | i :: r, a, b, h => by
    have hi := h i (List.mem_cons_self ..)
    have hg : l[i]? = some l[i] := List.getElem?_eq_getElem hi
    simp only [rangeF, hg]
    obtain ⟨h1, h2, h3⟩ := range_all r (minStrs a [l[i].first]) (maxStrs b [l[i].last]) fun j hj => h j (List.mem_cons_of_mem _ hj)
    obtain ⟨m1, m2⟩ := min_le a l[i].first
    obtain ⟨m3, m4⟩ := max_ge b l[i].last
    refine ⟨h1.trans m1, m3.trans h2, fun j hj t ht => ?_⟩
    rcases List.mem_cons.1 hj with rfl | hj
    · rw [hg] at ht; cases ht
      exact ⟨h1.trans m2, m4.trans h2⟩
    · exact h3 j hj t ht
theorem range_a {l : List Tab} {P : List UInt8 → Prop} : ∀ (own : List Nat) (a b : List UInt8), P a → (∀ i ∈ own, ∀ t, l[i]? = some t → P t.first) → P (rangeF l own a b).1
  | [], _, _, hb, _ => hb
  | i :: r, a, b, hb, h => by
    simp only [rangeF]
    cases e : l[i]? with
    | none => exact hb
    | some t =>
      refine range_a r _ _ ?_ fun j hj => h j (List.mem_cons_of_mem _ hj)
      rcases min_or a t.first with h1 | h1 <;> rw [h1]
      · exact hb
      · exact h i (List.mem_cons_self ..) t e

/-! ### What is kept -/
def Apart (u t : Tab) : Prop := t.level = u.level → t.level ≠ 0 → sLess u.last t.first = true ∨ sLess t.last u.first = true
theorem apart_of {t u : Tab} (h : apartB t u = true) : Apart u t := fun h1 h2 => by
  simp only [apartB, Bool.or_eq_true, beq_iff_eq, bne_iff_ne] at h
  rcases h with h | h | h | h
  · exact absurd h h2
  · exact absurd h1.symm h
  · exact .inl h
  · exact .inr (gtr_iff.1 h)
theorem keep_pair : ∀ (l kept : List Tab), kept.Pairwise Apart → (keepF kept l).Pairwise Apart
  | [], kept, h => h
  | t :: r, kept, h => by
    simp only [keepF]
    split
    · rename_i hm
      refine keep_pair r _ (List.pairwise_append.2 ⟨h, List.pairwise_singleton _ _, fun u hu t' ht' => ?_⟩)
      rw [List.mem_singleton.1 ht']
      exact apart_of (List.all_eq_true.1 hm u hu)
    · exact keep_pair r _ h
theorem keep_mem : ∀ (l kept : List Tab) (P : Tab → Prop), (∀ t ∈ kept, P t) → (∀ t ∈ l, P t) → ∀ t ∈ keepF kept l, P t
  | [], kept, P, h, _ => h
  | t :: r, kept, P, h, h2 => by
    have hr : ∀ u ∈ r, P u := fun u hu => h2 u (List.mem_cons_of_mem _ hu)
    simp only [keepF]
    split
    · refine keep_mem r _ P (fun u hu => ?_) hr
      rcases List.mem_append.1 hu with hu | hu
      · exact h u hu
      · rw [List.mem_singleton.1 hu]; exact h2 t (List.mem_cons_self ..)
    · exact keep_mem r _ P h hr
theorem keep_len : ∀ (l kept : List Tab), (keepF kept l).length ≤ kept.length + l.length
  | [], kept => by simp [keepF]
  | t :: r, kept => by
    simp only [keepF]
    split
    · have := keep_len r (kept ++ [t]); simp at this ⊢; omega
    · have := keep_len r kept; simp; omega
theorem pair_at {l : List Tab} (h : l.Pairwise Apart) {i j : Nat} {t u : Tab} (hi : l[i]? = some t) (hj : l[j]? = some u) (hne : i ≠ j) (hl : t.level = u.level) (h0 : t.level ≠ 0) : sLess u.last t.first = true ∨ sLess t.last u.first = true := by
  have key : ∀ {i j : Nat} {t u : Tab}, i < j → l[i]? = some t → l[j]? = some u → Apart t u := fun {i j t u} hlt hi hj => by
    have hil : i < l.length := by
      rcases Nat.lt_or_ge i l.length with h' | h'
      · exact h'
      · rw [List.getElem?_eq_none h'] at hi; cases hi
    have hjl : j < l.length := by
      rcases Nat.lt_or_ge j l.length with h' | h'
      · exact h'
      · rw [List.getElem?_eq_none h'] at hj; cases hj
    rw [List.getElem?_eq_getElem hil] at hi
    rw [List.getElem?_eq_getElem hjl] at hj
    cases hi; cases hj
    exact List.pairwise_iff_getElem.1 h i j hil hjl hlt
  rcases Nat.lt_or_gt_of_ne hne with h1 | h1
  · exact (key h1 hi hj hl.symm (by rw [← hl]; exact h0)).symm
  · exact key h1 hj hi hl h0

/-- Of the level to which they go none that was not picked overlaps the range of all that were. -/
theorem whole_clear {l : List Tab} {lv : Nat} {x : List Nat} {i0 : Nat} {t0 : Tab} (hp : pickL l [0, 1, 2] = some (lv, x)) (ha : l.Pairwise Apart) (hr : ∀ t ∈ l, Le t.first t.last) (hx0 : i0 ∈ x) (ht0 : l[i0]? = some t0) :
    ∀ i t, l[i]? = some t → i ∉ x → t.level = (lv : Int) + 1 → ((sLess t.first (rangeF l x t0.first t0.last).2 || t.first == (rangeF l x t0.first t0.last).2) && !(sLess t.last (rangeF l x t0.first t0.last).1)) = false := by
  intro i u hu hix hl
  have hul := hr u (List.mem_of_getElem? hu)
  rw [← Bool.not_eq_true, Bool.and_eq_true, leB_iff, geB_iff]
  intro ⟨hA, hB⟩
  obtain ⟨hlv, hm, _, rfl⟩ := pickL_some hp
  obtain ⟨j0, r, s0, e, h0, hl0, hown⟩ := own_some hlv hm
  simp only [pickAt, e, h0] at hix hx0 hA hB
  generalize hxx : ((List.range l.length).filter fun i => decide (i ∈ (j0 :: r) ++ overF l lv (j0 :: r) s0)) = x at hix hx0 hA hB
  have hownl : ∀ j ∈ j0 :: r, j < l.length := fun j hj => idxs_lt (hown j hj)
  obtain ⟨r1, r2, r3⟩ := range_all (l := l) (j0 :: r) s0.first s0.last hownl
  have hin : ∀ j, j ∈ x ↔ j < l.length ∧ (j ∈ j0 :: r ∨ j ∈ overF l lv (j0 :: r) s0) := fun j => by
    rw [← hxx, List.mem_filter, List.mem_range, decide_eq_true_eq, List.mem_append]
  generalize hab : rangeF l (j0 :: r) s0.first s0.last = ab at r1 r2 r3
  have hover : ∀ j, j ∈ overF l lv (j0 :: r) s0 ↔ ∃ t, l[j]? = some t ∧ overB ((lv : Int) + 1) ab.1 ab.2 t = true := fun j => by
    unfold overF
    rw [hab]
    rw [mem_idxs]
    simp
  have hil : i < l.length := by
    rcases Nat.lt_or_ge i l.length with h' | h'
    · exact h'
    · rw [List.getElem?_eq_none h'] at hu; cases hu
  -- u does not overlap the range of its own
  have hno : sLess u.last ab.1 = true ∨ sLess ab.2 u.first = true := by
    rcases lt_or_le u.last ab.1 with h1 | h1
    · exact .inl h1
    rcases lt_or_le ab.2 u.first with h2 | h2
    · exact .inr h2
    exfalso
    refine hix ((hin i).2 ⟨hil, .inr ((hover i).2 ⟨u, hu, ?_⟩)⟩)
    simp only [overB, Bool.and_eq_true, beq_iff_eq]
    exact ⟨hl, leB_iff.2 h2, geB_iff.2 h1⟩
  -- what the picked ones are
  have hpk : ∀ j ∈ x, ∀ t, l[j]? = some t → (Le ab.1 t.first ∧ Le t.last ab.2) ∨ (Le t.first ab.2 ∧ Le ab.1 t.last ∧ (sLess u.last t.first = true ∨ sLess t.last u.first = true)) := fun j hj t ht => by
    rcases ((hin j).1 hj).2 with h1 | h1
    · exact .inl (r3 j h1 t ht)
    · obtain ⟨t', ht', ho⟩ := (hover j).1 h1
      rw [ht] at ht'; cases ht'
      simp only [overB, Bool.and_eq_true, beq_iff_eq] at ho
      refine .inr ⟨leB_iff.1 ho.2.1, geB_iff.1 ho.2.2, ?_⟩
      refine pair_at ha ht hu (fun e => hix (e ▸ hj)) (by rw [ho.1, hl]) (by rw [ho.1]; omega)
  rcases hno with hn | hn
  · -- all of the range lies behind u
    have : sLess u.last (rangeF l x t0.first t0.last).1 = true := by
      have one : ∀ j ∈ x, ∀ t, l[j]? = some t → sLess u.last t.first = true := fun j hj t ht => by
        rcases hpk j hj t ht with ⟨h1, _⟩ | ⟨_, h2, h3 | h3⟩
        · rcases h1.eq with h1 | h1
          · exact sLess_trans hn h1
          · rw [← h1]; exact hn
        · exact h3
        · exfalso
          exact (h2.trans ((lt_le h3).trans hul)).not_lt hn
      exact range_a (P := fun s => sLess u.last s = true) x t0.first t0.last (one i0 hx0 t0 ht0) one
    exact hB.not_lt this
  · have : sLess (rangeF l x t0.first t0.last).2 u.first = true := by
      have one : ∀ j ∈ x, ∀ t, l[j]? = some t → sLess t.last u.first = true := fun j hj t ht => by
        rcases hpk j hj t ht with ⟨_, h1⟩ | ⟨h2, _, h3 | h3⟩
        · rcases h1.eq with h1 | h1
          · exact sLess_trans h1 hn
          · rw [h1]; exact hn
        · exfalso
          exact (hul.trans ((lt_le h3).trans h2)).not_lt hn
        · exact h3
      exact rangeF_b (P := fun s => sLess s u.first = true) x t0.first t0.last (one i0 hx0 t0 ht0) one
    exact hA.not_lt this

/-! ### Of the level 0 all or none -/
theorem ups_none {l : List Tab} {lv : Int} : ∀ x : List Nat, (∀ i ∈ x, isOf l lv i = false) → upsF l lv x = 0
  | [], _ => rfl
  | i :: r, h => by
    simp only [upsF, h i (List.mem_cons_self ..)]
    have := ups_none r fun j hj => h j (List.mem_cons_of_mem _ hj)
    simpa using this
def ind0 (t : Tab) : Int := if t.level = 0 then 1 else 0
theorem ind_of : ∀ l : List Tab, sumF ind0 l = ofF 0 l
  | [] => rfl
  | t :: r => by simp only [sumF, ofF, ind_of r, ind0]; split <;> simp
theorem ind_ups {l : List Tab} : ∀ x : List Nat, sumX ind0 l 0 x = upsF l 0 x
  | [] => rfl
  | i :: r => by
    have e : atF ind0 l 0 i = if isOf l 0 i = true then 1 else 0 := by
      unfold atF isOf
      rw [Nat.sub_zero]
      rcases l[i]? with _ | t
      · simp
      · simp only [ind0]; by_cases h : t.level = 0 <;> simp [h]
    simp only [sumX, upsF, ind_ups r, e]
    split <;> simp
theorem sum_zero {f : Tab → Int} : ∀ l : List Tab, (∀ t ∈ l, f t = 0) → sumF f l = 0
  | [], _ => rfl
  | t :: r, h => by
    simp only [sumF, h t (List.mem_cons_self ..), sum_zero r fun u hu => h u (List.mem_cons_of_mem _ hu)]; rfl
theorem behL_mem {x : List Nat} : ∀ (l : List Tab) (k : Nat) (t : Tab), t ∈ behL x k l → ∃ i, k ≤ i ∧ l[i - k]? = some t ∧ i ∉ x
  | [], _, t, h => by simp [behL] at h
  | u :: r, k, t, h => by
    simp only [behL] at h
    have step : t ∈ behL x (k + 1) r → ∃ i, k ≤ i ∧ (u :: r)[i - k]? = some t ∧ i ∉ x := fun h => by
      obtain ⟨i, h1, h2, h3⟩ := behL_mem r (k + 1) t h
      refine ⟨i, by omega, ?_, h3⟩
      have : i - k = (i - (k + 1)) + 1 := by omega
      rw [this, List.getElem?_cons_succ]; exact h2
    split at h
    · exact step h
    · rename_i hk
      rcases List.mem_cons.1 h with rfl | h
      · exact ⟨k, Nat.le_refl _, by simp, hk⟩
      · exact step h
theorem whole_zero {l : List Tab} {lv : Nat} {x : List Nat} (hp : pickL l [0, 1, 2] = some (lv, x)) : upsF l 0 x = 0 ∨ (upsF l 0 x = ofF 0 l ∧ lv = 0) := by
  obtain ⟨h1, h2, h3, _⟩ := pick_mem hp
  obtain ⟨hlv, hm, _, hx⟩ := pickL_some hp
  by_cases h0 : lv = 0
  · refine .inr ⟨?_, h0⟩
    have hin : ∀ i ∈ x, 0 ≤ i ∧ i < 0 + l.length := fun i hi => by
      obtain ⟨t, ht, _⟩ := h1 i hi
      rcases Nat.lt_or_ge i l.length with h' | h'
      · omega
      · rw [List.getElem?_eq_none h'] at ht; cases ht
    have hs := sum_split (f := ind0) l 0 x h2 hin
    have hz : sumF ind0 (behL x 0 l) = 0 := sum_zero _ fun t ht => by
      obtain ⟨i, _, hi2, hi3⟩ := behL_mem l 0 t ht
      rw [Nat.sub_zero] at hi2
      unfold ind0
      rw [if_neg]
      intro hl
      refine hi3 ?_
      have hmem : i ∈ idxsFrom (onB 0) 0 l := mem_idxs.2 ⟨t, by simpa using hi2, by simp [onB, hl], by omega⟩
      obtain ⟨j0, r, s0, e, hs0, _, _⟩ := own_some hlv hm
      have hown : ownF l 0 = idxsFrom (onB 0) 0 l := by unfold ownF; rw [if_pos rfl]; rfl
      rw [hx]
      subst h0
      simp only [pickAt, e, hs0]
      refine List.mem_filter.2 ⟨List.mem_range.2 (idxs_lt hmem), ?_⟩
      rw [← hown, e] at hmem
      simp only [decide_eq_true_eq]
      exact List.mem_append_left _ hmem
    rw [ind_of, hz, ind_ups] at hs
    omega
  · refine .inl (ups_none x fun i hi => ?_)
    obtain ⟨t, ht, hl⟩ := h1 i hi
    simp only [isOf, ht]
    rcases hl with hl | hl <;> rw [hl] <;> simp <;> omega

theorem rightL_le {lv : Int} : ∀ {l : List Tab} {t : Tab}, t ∈ rightL lv l → Le t.first t.last
  | [], t, h => by simp [rightL] at h
  | u :: r, t, h => by
    simp only [rightL] at h
    split at h
    · rcases List.mem_cons.1 h with rfl | h
      · simp only [fixT]
        cases e : gtr u.first u.last with
        | true => simp only [if_true]; exact lt_le (gtr_iff.1 e)
        | false =>
          simp only [Bool.false_eq_true, if_false]
          unfold gtr at e
          refine leB_iff.1 ?_
          cases h2 : (sLess u.first u.last || u.first == u.last) with
          | true => rfl
          | false => rw [h2] at e; cases e
      · exact rightL_le h
    · exact rightL_le h
theorem rightF_le {all : List Tab} : ∀ t ∈ rightF all, Le t.first t.last := fun t ht => by
  simp only [rightF, List.mem_append] at ht
  rcases ht with ((h | h) | h) | h <;> exact rightL_le h

end Go.Am

/- The law PickWhole, walked. -/
namespace Go.Am
open Go

theorem f5_ok {B : Base} {H : Heap} {Q : AV → Heap → Prop} {v : AV} {all : List Tab} (hs : Sl B H 36 v (all.map Tab.row)) (hok : ∀ t ∈ all, t.Ok) (h : Q (.bool true) H) : Cl B 5 [v] H Q := by
  refine f5_in fun n cl hn hcl hH hA => J5_37_in ?_
  subst hcl
  refine f9_ok ?_
  show J5_36 B (Cl B) n v (.bool true) H Q
  refine J5_36_in (f16_ok hs hok ?_)
  have hok1 := rightF_ok hok
  have hsz1 := rightF_len all
  have hle1 := @rightF_le all
  generalize rightF all = l1 at hok1 hsz1 hle1
  refine wV_live _ _ _ _ (J5_35_in (J5_34_in ?_))
  refine L5_7_tidy (H2 := H ++ [.arr (l1.map Tab.row).flatten, .gone]) (f := pick n fun j => j) (y0 := .nils) (y3 := .bool true) (y4 := wV H.length 36 (l1.map Tab.row)) ?_ rfl rfl (wV_rv ?_ (by simp)) ?_
  · refine Cln.pick (L := [AObj.arr (l1.map Tab.row).flatten]) (L2 := [.arr (l1.map Tab.row).flatten, .gone]) hn hH (fun j => j) (fun _ _ _ _ h => h) fun j o2 hj => ?_
    match j with
    | 0 => simp only [List.getElem?_cons_zero, Option.some.injEq] at hj; subst hj; exact .inr ⟨rfl, arr_flat hok1⟩
    | 1 => simp at hj; exact .inl hj.symm
    | j + 2 => simp at hj
  · rw [← hn, pick_at0]; rfl
  refine f5_keep hn hH hok1 hsz1 (J5_33_in ?_) l1 0 [] rfl (fun t ht => by simp at ht) (by simp) rfl
  have hok' := keep_mem l1 [] Tab.Ok (fun t ht => by simp at ht) hok1
  have hle' := keep_mem l1 [] (fun t => Le t.first t.last) (fun t ht => by simp at ht) hle1
  have hpair := keep_pair l1 [] List.Pairwise.nil
  have hsz : (keepF [] l1).length ≤ 600 := by have := keep_len l1 []; simp at this; omega
  generalize keepF [] l1 = l at hok' hle' hpair hsz
  generalize hG : H ++ [AObj.arr (l1.map Tab.row).flatten, growO (l.map Tab.row)] = G
  have fin : ∀ L, tidyK n Q (.bool true) (G ++ L) := fun L => by rw [← hG, List.append_assoc]; exact tidy_drop hn hH low_bool h
  have h0 : Sl B G 36 (growV (H.length + 1) 36 (l.map Tab.row)) (l.map Tab.row) := growV_sl (by rw [← hG, get_app]; rfl) (tabs_len hok')
  refine f10_ok h0 hok' (by omega) (fun hp => ?_) fun lv x hx => ?_
  · refine op_ext3 live_nils (J5_32_in ?_)
    rw [pBool_bool, bs_false]
    have := fin []
    rw [List.append_nil] at this
    exact f5_caps h0 hsz hp this
  · obtain ⟨hxm, hxs, hxl, i1, hi1, _⟩ := pick_mem hx
    obtain ⟨hlv, _, _, _⟩ := pickL_some hx
    have hin : ∀ i ∈ x, i < l.length := fun i hi => by
      obtain ⟨t, ht, _⟩ := hxm i hi
      rcases Nat.lt_or_ge i l.length with h' | h'
      · exact h'
      · rw [List.getElem?_eq_none h'] at ht; cases ht
    refine op_ext3 (fun K hK => growV_live _ _ _ K hK) (J5_32_in ?_)
    rw [pBool_bool, bs_true]
    obtain ⟨i0, xr, hx0⟩ : ∃ i r, x = i :: r := by
      cases x with
      | nil => simp at hi1
      | cons i r => exact ⟨i, r, rfl⟩
    have hi0 : i0 ∈ x := by rw [hx0]; simp
    have hl0 := hin i0 hi0
    have hg0 : l[i0]? = some l[i0] := List.getElem?_eq_getElem hl0
    have ht0 := hok' _ (List.getElem_mem hl0)
    generalize l[i0] = t0 at hg0 ht0
    have h8 : Sl B (G ++ [growO (x.map irow)]) 1 (growV G.length 1 (x.map irow)) (x.map irow) := growV_sl (by rw [get_app0]; rfl) (irows_len x)
    have h0' : Sl B (G ++ [growO (x.map irow)]) 36 (growV (H.length + 1) 36 (l.map Tab.row)) (l.map Tab.row) := h0.pre
    have fin' : ∀ L, tidyK n Q (.bool true) (G ++ [growO (x.map irow)] ++ L) := fun L => by rw [List.append_assoc]; exact fin _
    have hclear := whole_clear hx hpair hle' hi0 hg0
    have hzero := whole_zero hx
    have hlen8 : lenOf (growV G.length 1 (x.map irow)) = some x.length := by rw [growV_len, List.length_map]
    generalize growV G.length 1 (x.map irow) = x8 at *
    generalize growV (H.length + 1) 36 (l.map Tab.row) = x0 at *
    generalize G ++ [growO (x.map irow)] = G' at *
    refine J5_31_in ?_
    rw [hlen8, ob_some]
    refine bs_no (by rw [hx0]; simp; omega) (J5_30_in (f5_in_bounds h0' h8 hin (by omega) (J5_29_in ?_) x 0 rfl))
    rw [h0'.len, ob_some, List.length_map]
    refine op_make (m := l.length) rfl (by simp [maxBytes]; omega) (by simp [maxInt]; omega) ?_
    rw [mark0]
    have s8 : Sl B (G' ++ [.arr ((markF l.length []).map brow).flatten]) 1 x8 (x.map irow) := h8.pre
    have s0 : Sl B (G' ++ [.arr ((markF l.length []).map brow).flatten]) 36 x0 (l.map Tab.row) := h0'.pre
    have r8 : (x.map irow)[0]? = some (irow i0) := by rw [hx0]; rfl
    have i8 : 0 < (x.map irow).length := by rw [hx0]; simp
    have p8 : peek B (G' ++ [.arr ((markF l.length []).map brow).flatten]) (ept 1 x8 0) = some (.int .i64 (i0 : Int)) := (s8.el r8).peek0 rfl
    have e0 := tab_row s0 hg0
    refine J5_28_in (op_idx' s8 (i := 0) rfl i8 ?_)
    rw [p8, ob_some, pInt_int]
    refine op_idx s0 (tab_lt hg0) (op_fld e0 ?_)
    rw [e0.fld ht0.r34, ob_some, pStr_str]
    refine op_idx' s8 (i := 0) rfl i8 ?_
    rw [p8, ob_some, pInt_int]
    refine op_idx s0 (tab_lt hg0) (op_fld e0 ?_)
    rw [e0.fld ht0.r35, ob_some, pStr_str]
    refine J5_27_in (J5_26_in ?_)
    refine f5_mark (a0 := t0.first) (b0 := t0.last) h0' h8 hok' hin (by omega) (J5_25_in ?_) x 0 [] t0.first t0.last 0 rfl rfl rfl (by omega) (by omega)
    refine f5_clear (x := x) h0' hok' hsz hclear (J5_24_in ?_) l 0 rfl
    rw [pGuard_bool, bs_true]
    rcases hzero with hz | ⟨hz, hlv0⟩
    · exact bs_yes (by simp [hz]) (fin' _)
    · by_cases hz0 : upsF l 0 x = 0
      · exact bs_yes (by simp [hz0]) (fin' _)
      · refine bs_no (by simp; omega) (f17_ok h0'.pre (by omega) ?_)
        rw [pInt_int]
        refine bs_yes (by simp [hz]) ?_
        rw [pInt_int]
        refine ib_eq_yes (by omega) ?_
        exact fin' _

end Go.Am
