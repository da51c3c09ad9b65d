/- The law PickLess, walked. -/
import Derived.Test.YtdgjmffnjkimoaaPl3
namespace Go.Am
open Go

theorem op_notB {B : Base} {H : Heap} {K : AV → Heap → Prop} {b : Bool} (h : K (.bool (!b)) H) : aop B E0 H K (.not (.const (.bool b))) := by
  simp only [aop, opK, Opd.look, ob_some, pBool_bool]
  cases b <;> exact h
theorem mark0 (N : Nat) : (List.replicate N [AV.bool false]).flatten = ((markF N []).map brow).flatten := by
  congr 1
  simp only [markF, List.map_map]
  apply List.ext_getElem?
  intro j
  rw [List.getElem?_replicate, List.getElem?_map]
  rcases Nat.lt_or_ge j N with h | h
  · rw [if_pos h, List.getElem?_range h]; simp [brow]
  · rw [if_neg (by omega), List.getElem?_eq_none (by simpa using h)]; rfl

theorem f4_ok {B : Base} {H : Heap} {Q : AV → Heap → Prop} {v x1 : AV} {all : List Tab} {cs : List Int} (hs : Sl B H 36 v (all.map Tab.row)) (hok : ∀ t ∈ all, t.Ok) (hs1 : Sl B H 1 x1 (cs.map zrow)) (h : Q (.bool true) H) : Cl B 4 [v, x1] H Q := by
  refine f4_in fun n cl hn hcl hH hA => J4_28_in ?_
  subst hcl
  have hv1 : Low n x1 := hA.2.1
  refine f9_ok ?_
  show J4_27 B (Cl B) n v x1 (.bool true) H Q
  refine J4_27_in (f16_ok hs hok ?_)
  have hok' := rightF_ok hok
  have hsz := rightF_len all
  have hcnt := @rightF_cnt all
  generalize rightF all = l at hok' hsz hcnt
  refine wV_live _ _ _ _ (J4_26_in (f10_ok (wV_sl (by rw [get_app0]; rfl) (tabs_len hok')) hok' (by omega) (fun hp => ?_) fun lv x hx => ?_))
  · refine op_ext3 live_nils (J4_25_in (op_notB (J4_0_in ?_)))
    rw [pBool_bool, if_pos (by rfl), pGuard_bool, bs_true, show lenOf AV.nils = some 0 from rfl, ob_some]
    refine bs_yes (by rfl) ?_
    rw [pInt_int]
    refine ib_eq_yes rfl ?_
    exact tidy_drop hn hH low_bool h
  · obtain ⟨hxm, hxs, hxl, _⟩ := pick_mem hx
    obtain ⟨hlv, _, _, _⟩ := pickL_some hx
    obtain ⟨g1, g2, g3⟩ := picked_wt hlv hcnt x hxm
    obtain ⟨hfall, hups⟩ := score_falls (cs := cs) hx hsz hcnt
    refine op_ext3 (fun K hK => growV_live _ _ _ K hK) (J4_25_in (op_notB (J4_0_in ?_)))
    rw [pBool_bool, if_neg (by simp)]
    have e : (H ++ [AObj.arr (l.map Tab.row).flatten]).length = H.length + 1 := by simp
    rw [e, List.append_assoc]
    refine J4_24_in ?_
    rw [wV_len', ob_some, List.length_map]
    refine op_make (m := l.length) rfl (by simp [maxBytes]; omega) (by simp [maxInt]; omega) ?_
    have e2 : (H ++ ([AObj.arr (l.map Tab.row).flatten] ++ [growO (x.map irow)])).length = H.length + 2 := by simp
    rw [e2, mark0, List.append_assoc]
    refine J4_23_in (J4_22_in (J4_21_in ?_))
    refine f4_mark hn hH hv1 hok' hsz hlv hcnt hxm hxs hxl (J4_20_in ?_) x 0 [] 0 0 rfl rfl (by omega) (by omega) (by omega) (by omega)
    rw [show layParts [] [] = some [] from rfl, ob_some]
    refine slK_in (J4_19_in ?_)
    have e3 : (H ++ [AObj.arr (l.map Tab.row).flatten, growO (x.map irow), .arr ((markF l.length x).map brow).flatten]).length = H.length + 3 := by simp
    rw [e3, List.append_assoc]
    refine L4_12_tidy (y0 := wV H.length 36 (l.map Tab.row)) (y1 := x1) (y5 := .bool true) (y7 := .int .i64 ((lv : Int) + 1)) (y9 := X9 H l) (y14 := wV (H.length + 2) 36 (([] : List Tab).map Tab.row))
      (sel3 hn hH (a := 0) (b := 2) (c := 3) (o3 := .arr []) rfl (arr_flat hok') rfl (brows_flat _) rfl ⟨fun v hv => by simp at hv, rfl⟩ (by decide) (by decide) (by decide)) (wV_rv ?_ (by simp)) (low_pick (by subst hn; simp) hv1) rfl rfl ⟨?_, ?_⟩ (wV_rv ?_ (by simp)) ?_
    · rw [← hn, pick_at0]; rfl
    · simp [Id.ok]
    · simp only [Id.ren, X9]; rw [← hn, pick_n1]; rfl
    · rw [← hn, pick_n2]; rfl
    refine f4_behind hn hH hv1 hok' hsz (J4_18_in ?_) l 0 [] rfl (fun t ht => by simp at ht) (by simp) rfl
    have hbok := behL_ok (x := x) (i := 0) hok'
    have hbl := behL_len (x := x) l 0
    refine f4_made (room0 := roomF l x) (beh := behL x 0 l) hn hH hv1 hok' (brows_flat _) hs1 (by omega) hbok (J4_17_in ?_) cs 0 (behL x 0 l) (roomF l x) rfl hbok (by omega) (by omega) (by omega) rfl
    have hml := madeL_len (to := (lv : Int) + 1) cs 0 (roomF l x) (by omega)
    have hfok : ∀ t ∈ behL x 0 l ++ madeL ((lv : Int) + 1) 0 (roomF l x) cs, t.Ok := ok_app hbok fun t ht => madeL_ok t ht
    rw [pGuard_bool, bs_true]
    refine bs_yes (by simp; omega) ?_
    rw [pInt_int]
    refine bs_yes (by simp; omega) ?_
    rw [pInt_int]
    refine bs_yes (by simp; omega) ?_
    refine f12_ok (wV_sl (by rw [get_app]; rfl) (tabs_len hfok)) hfok (by simp; omega) ?_
    rw [pInt_int]
    refine f12_ok (wV_sl (by rw [get_app0]; rfl) (tabs_len hok')) hok' (by omega) ?_
    rw [pInt_int]
    refine ib_lt_yes hfall ?_
    exact tidy_drop hn hH low_bool h

end Go.Am
