/- The law PickAlone: the rest of its walk. -/
import Derived.Test.YtdgjmffnjkimoaaPa2
namespace Go.Am
open Go

section
variable {B : Base} {n : Nat} {H : Heap} {Q : AV → Heap → Prop} {l : List Tab} {x : List Nat} {to : Int}

theorem f7_upper (hn : n = H.length) (hH : LowH n H) (hok : ∀ t ∈ l, t.Ok) (hsz : l.length ≤ 600)
    (h : J7_16 B (Cl B) n (.bool true) (growV (H.length + 1) 1 (x.map irow)) (.int .i64 to) (growV (H.length + 2) 36 ((upF to l).map Tab.row)) (H ++ [.arr (l.map Tab.row).flatten, growO (x.map irow), growO ((upF to l).map Tab.row)]) Q) :
    ∀ (rest : List Tab) (i : Nat) (acc : List Tab), l.drop i = rest → (∀ t ∈ acc, t.Ok) → acc.length ≤ i → acc ++ upF to rest = upF to l →
      L7_9 B (Cl B) n (wV H.length 36 (l.map Tab.row)) (.bool true) (growV (H.length + 1) 1 (x.map irow)) (.int .i64 to) (growV (H.length + 2) 36 (acc.map Tab.row)) (i : Int) (H ++ [.arr (l.map Tab.row).flatten, growO (x.map irow), growO (acc.map Tab.row)]) Q
  | [], i, acc, hd, hacc, hal, ha => by
    have hl := drop_nil hd
    refine L7_9_in (ACall.cle B table) ?_
    rw [wV_len, ob_some, List.length_map]
    refine bs_dec (fun h1 => by omega) fun _ => ?_
    simp only [upF, List.filter_nil, List.append_nil] at ha
    rw [ha]; exact h
  | t :: r, i, acc, hd, hacc, hal, ha => by
    obtain ⟨hget, hlt, hd'⟩ := drop_cons hd
    have ht : t.Ok := hok t (List.mem_of_getElem? hget)
    have hs : Sl B (H ++ [.arr (l.map Tab.row).flatten, growO (x.map irow), growO (acc.map Tab.row)]) 36 (wV H.length 36 (l.map Tab.row)) (l.map Tab.row) := wV_sl (by rw [get_app0]; rfl) (tabs_len hok)
    refine L7_9_in (ACall.cle B table) ?_
    rw [wV_len, ob_some, List.length_map]
    refine bs_dec (fun _ => ?_) fun h1 => by omega
    refine J7_8_in (tab_level hs hget ?_)
    rw [pInt_int]
    refine ib_le (J7_6_in ?_)
    rw [pBool_bool]
    by_cases hm : t.level ≤ to
    · rw [if_pos (by simpa using hm)]
      have e0 : upF to (t :: r) = t :: upF to r := by simp [upF, hm]
      refine op_idx hs (tab_lt hget) ?_
      rw [(tab_row hs hget).peekN ht.len, ob_some, lay_row (n := 36) (by rfl) ht.len, ob_some]
      refine slK_in (op_appendW (k := H.length + 2) (rows1 := acc.map Tab.row) (by rw [List.append_assoc, get_app]; rfl) (tabs_len hacc) (sl_row1 ht.len) (by simp) (by simp [maxBytes]; omega) ?_)
      have e : acc.map Tab.row ++ [t.row] = (acc ++ [t]).map Tab.row := by simp
      have hacc' : ∀ t' ∈ acc ++ [t], t'.Ok := ok_app hacc fun u hu => by rw [List.mem_singleton.1 hu]; exact ht
      have e2 : (H ++ [AObj.arr (l.map Tab.row).flatten, growO (x.map irow), growO (acc.map Tab.row)] ++ [AObj.arr t.row]).set (H.length + 2) .gone ++ [growO ((acc ++ [t]).map Tab.row)]
          = H ++ [AObj.arr (l.map Tab.row).flatten, growO (x.map irow), .gone, .arr t.row, growO ((acc ++ [t]).map Tab.row)] := by
        rw [List.append_assoc, set_app]; simp
      have e3 : (H ++ [AObj.arr (l.map Tab.row).flatten, growO (x.map irow), growO (acc.map Tab.row)] ++ [AObj.arr t.row]).length = H.length + 4 := by simp
      rw [e, e2, e3]
      refine J7_7_in ?_
      rw [w64 (n := (i : Int) + 1) (by omega)]
      refine L7_9_tidy (y0 := wV H.length 36 (l.map Tab.row)) (y5 := .bool true) (y6 := growV (H.length + 1) 1 (x.map irow)) (y7 := .int .i64 to) (y14 := growV (H.length + 2) 36 ((acc ++ [t]).map Tab.row))
        (sel3 hn hH (a := 0) (b := 1) (c := 4) rfl (arr_flat hok) rfl (irows_flat x) rfl (tabs_flat hacc') (by decide) (by decide) (by decide)) (wV_rv ?_ (by simp)) rfl (growV_rv ?_ (by simp)) rfl (growV_rv ?_ (by simp))
        (f7_upper hn hH hok hsz h r (i + 1) (acc ++ [t]) hd' hacc' (by simp; omega) (by rw [e0] at ha; simpa using ha))
      · rw [← hn, pick_at0]; rfl
      · rw [← hn, pick_n1]; rfl
      · rw [← hn, pick_n2]; rfl
    · rw [if_neg (by simpa using hm)]
      have e0 : upF to (t :: r) = upF to r := by simp [upF, hm]
      refine J7_7_in ?_
      rw [w64 (n := (i : Int) + 1) (by omega)]
      exact f7_upper hn hH hok hsz h r (i + 1) acc hd' hacc (by omega) (by rw [e0] at ha; exact ha)

theorem f7_same {G : Heap} {x6 x16 : AV} (h6 : Sl B G 1 x6 (x.map irow)) (h16 : Sl B G 1 x16 (x.map irow)) (hsz : x.length < 4611686018427387904) (h : tidyK n Q (.bool true) G) :
    ∀ (rest : List Nat) (i : Nat), x.drop i = rest → L7_13 B (Cl B) n (.bool true) x6 x16 (i : Int) G Q
  | [], i, hd => by
    refine L7_13_in (ACall.cle B table) ?_
    rw [h6.len, ob_some, List.length_map]
    exact bs_dec (fun h1 => absurd (drop_nil hd) (by omega)) fun _ => J7_14_in h
  | k :: r, i, hd => by
    obtain ⟨hget, hlt, hd'⟩ := drop_cons hd
    have hrow : (x.map irow)[i]? = some (irow k) := by simp [hget]
    refine L7_13_in (ACall.cle B table) ?_
    rw [h6.len, ob_some, List.length_map]
    refine bs_dec (fun _ => J7_12_in ?_) fun h1 => absurd (by omega) h1
    refine op_idx h16 (by simpa using hlt) ?_
    rw [(h16.el hrow).peek0 (v := .int .i64 (k : Int)) rfl, ob_some, pInt_int]
    refine op_idx h6 (by simpa using hlt) ?_
    rw [(h6.el hrow).peek0 (v := .int .i64 (k : Int)) rfl, ob_some, pInt_int]
    refine ib_ne_no rfl ?_
    rw [pBool_bool, if_neg (by simp)]
    refine J7_11_in ?_
    rw [w64 (n := (i : Int) + 1) (by omega)]
    exact f7_same h6 h16 hsz h r (i + 1) hd'
end

theorem tmod_at (x : Int) {m : Nat} (hm : m ≠ 0) : ∃ k : Nat, k < m ∧ Int.tmod (bitsOp .and IntKind.i64 x 65535) (m : Int) = k := by
  have h : ∃ j : Nat, bitsOp .and IntKind.i64 x 65535 = j := by
    refine ⟨(BitVec.ofInt 64 x &&& BitVec.ofInt 64 65535).toNat, ?_⟩
    show IntKind.i64.wrap ((BitVec.ofInt 64 x &&& BitVec.ofInt 64 65535).toNat : Int) = _
    have : (BitVec.ofInt 64 x &&& BitVec.ofInt 64 65535).toNat ≤ 65535 := by
      rw [BitVec.toNat_and]
      exact Nat.and_le_right
    exact w64 (by omega)
  obtain ⟨j, hj⟩ := h
  refine ⟨j % m, Nat.mod_lt _ (by omega), ?_⟩
  rw [hj, Int.tmod_eq_emod_of_nonneg (by omega)]
  omega

theorem f7_ok {B : Base} {H : Heap} {Q : AV → Heap → Prop} {v : AV} {all : List Tab} {x1 : Int} (hs : Sl B H 36 v (all.map Tab.row)) (hok : ∀ t ∈ all, t.Ok) (h : Q (.bool true) H) : Cl B 7 [v, .int .i64 x1] H Q := by
  refine f7_in fun n cl hn hcl hH hA => J7_22_in ?_
  subst hcl
  refine f9_ok ?_
  show J7_21 B (Cl B) n v x1 (.bool true) H Q
  refine J7_21_in (f16_ok hs hok ?_)
  have hok' := rightF_ok hok
  have hasc := rightF_asc all
  have hsz := rightF_len all
  generalize rightF all = l at hok' hasc hsz
  refine wV_live _ _ _ _ (J7_20_in (f10_ok (wV_sl (by rw [get_app0]; rfl) (tabs_len hok')) hok' (by omega) (fun hp => ?_) fun lv x hx => ?_))
  · refine op_ext3 live_nils (J7_19_in (op_not (J7_5_in ?_)))
    rw [pBool_bool, if_pos (by rfl), wV_len, ob_some, List.length_map]
    by_cases h0 : l.length = 0
    · exact bs_yes (by simp [h0]) (tidy_drop hn hH low_bool h)
    · refine bs_no (by simp; intro e; exact h0 (by rw [e]; rfl)) (J7_4_in ?_)
      rw [wV_len, ob_some, List.length_map, if_neg (by omega)]
      obtain ⟨k, hk, e⟩ := tmod_at x1 h0
      rw [e]
      exact f7_without hn hH hok' hsz hk hp h
  · refine op_ext3 (fun K hK => growV_live _ _ _ K hK) (J7_19_in (op_not (J7_5_in ?_)))
    rw [pBool_bool, if_neg (by simp)]
    have e : (H ++ [AObj.arr (l.map Tab.row).flatten]).length = H.length + 1 := by simp
    rw [e, List.append_assoc]
    refine J7_18_in (J7_17_in ?_)
    have hup := pick_upper hasc hx
    have huok : ∀ t ∈ upF ((lv : Int) + 1) l, t.Ok := fun t ht => hok' t (List.mem_filter.1 ht).1
    have hul : (upF ((lv : Int) + 1) l).length ≤ 600 := Nat.le_trans (List.length_filter_le _ _) hsz
    have hxl : x.length ≤ l.length := by rw [pickL_at hx]; exact pickAt_len l lv
    refine L7_9_tidy (H2 := H ++ [.arr (l.map Tab.row).flatten, growO (x.map irow), .gone]) (f := pick n fun j => j) (y0 := wV H.length 36 (l.map Tab.row)) (y5 := .bool true) (y6 := growV (H.length + 1) 1 (x.map irow)) (y7 := .int .i64 ((lv : Int) + 1)) (y14 := .nils) ?_ (wV_rv ?_ (by simp)) rfl (growV_rv ?_ (by simp)) rfl rfl ?_
    · refine Cln.pick (L := [AObj.arr (l.map Tab.row).flatten] ++ [growO (x.map irow)]) (L2 := [.arr (l.map Tab.row).flatten, growO (x.map irow), .gone]) hn hH (fun j => j) (fun _ _ _ _ h => h) fun j o2 hj => ?_
      match j with
      | 0 => simp only [List.getElem?_cons_zero, Option.some.injEq] at hj; subst hj; exact .inr ⟨rfl, arr_flat hok'⟩
      | 1 => simp only [List.getElem?_cons_succ, List.getElem?_cons_zero, Option.some.injEq] at hj; subst hj; exact .inr ⟨rfl, irows_flat x⟩
      | 2 => simp at hj; exact .inl hj.symm
      | j + 3 => simp at hj
    · rw [← hn, pick_at0]; rfl
    · rw [← hn, pick_n1]
    · refine f7_upper hn hH hok' hsz (J7_16_in ?_) l 0 [] rfl (fun t ht => by simp at ht) (by simp) rfl
      generalize hG : H ++ [AObj.arr (l.map Tab.row).flatten, growO (x.map irow), growO ((upF ((lv : Int) + 1) l).map Tab.row)] = G
      have g1 : G[H.length + 1]? = some (growO (x.map irow)) := by rw [← hG, get_app]; rfl
      have g2 : G[H.length + 2]? = some (growO ((upF ((lv : Int) + 1) l).map Tab.row)) := by rw [← hG, get_app]; rfl
      refine f10_ok (growV_sl g2 (tabs_len huok)) huok (by omega) (fun hp => ?_) fun lv2 x2 hx2 => ?_
      · rw [hup] at hp; cases hp
      · rw [hup] at hx2; cases hx2
        refine op_ext3 (fun K hK => growV_live _ _ _ K hK) (J7_15_in ?_)
        rw [pBool_bool, bs_true, pInt_int, pInt_int]
        refine bs_no (by simp) ?_
        rw [growV_len, ob_some, growV_len, ob_some]
        refine ib_ne_no rfl (J7_10_in ?_)
        rw [pBool_bool, if_neg (by simp)]
        refine f7_same (x := x) (growV_sl (get_pre g1) (irows_len x)) (growV_sl (by rw [get_app0]; rfl) (irows_len x)) (by omega) ?_ x 0 rfl
        rw [← hG, List.append_assoc]
        exact tidy_drop hn hH low_bool h

end Go.Am
