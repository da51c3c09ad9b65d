/- The law PickLess: its other loops. -/
import Derived.Test.YtdgjmffnjkimoaaPl1
namespace Go.Am
open Go

def behL (x : List Nat) : Nat → List Tab → List Tab
  | _, [] => []
  | i, t :: r => if i ∈ x then behL x (i + 1) r else t :: behL x (i + 1) r
theorem behL_ok {x : List Nat} : ∀ {l : List Tab} {i : Nat}, (∀ t ∈ l, t.Ok) → ∀ t ∈ behL x i l, t.Ok
  | [], _, _, t, ht => by simp [behL] at ht
  | u :: r, i, h, t, ht => by
    have ih := behL_ok (x := x) (l := r) (i := i + 1) fun y hy => h y (List.mem_cons_of_mem _ hy)
    simp only [behL] at ht
    split at ht
    · exact ih t ht
    · rcases List.mem_cons.1 ht with rfl | ht
      · exact h _ (List.mem_cons_self ..)
      · exact ih t ht
theorem behL_len {x : List Nat} : ∀ (l : List Tab) (i : Nat), (behL x i l).length ≤ l.length
  | [], _ => Nat.le_refl _
  | u :: r, i => by have := behL_len (x := x) r (i + 1); simp only [behL]; split <;> simp <;> omega

def zrow (c : Int) : List AV := [.int .i64 c]
theorem zrows_len (l : List Int) : ∀ r, r ∈ l.map zrow → r.length = 1 := fun r hr => by
  obtain ⟨i, _, rfl⟩ := List.mem_map.1 hr; rfl

def madeL (to : Int) : Nat → Int → List Int → List Tab
  | _, _, [] => []
  | i, room, c :: r => if i < 50 ∧ room > 0 then tab to (1 + Int.tmod (bitsOp .and IntKind.i64 c 65535) room) [] [] :: madeL to (i + 1) (room - (1 + Int.tmod (bitsOp .and IntKind.i64 c 65535) room)) r else []
theorem madeL_ok {to : Int} : ∀ {cs : List Int} {i : Nat} {room : Int}, ∀ t ∈ madeL to i room cs, t.Ok
  | [], _, _, t, ht => by simp [madeL] at ht
  | c :: r, i, room, t, ht => by
    simp only [madeL] at ht
    split at ht
    · rcases List.mem_cons.1 ht with rfl | ht
      · exact tab_ok _ _ _ _
      · exact madeL_ok t ht
    · simp at ht
theorem madeL_len {to : Int} : ∀ (cs : List Int) (i : Nat) (room : Int), i ≤ 50 → (madeL to i room cs).length ≤ 50 - i
  | [], _, _, _ => by simp [madeL]
  | c :: r, i, room, hi => by
    simp only [madeL]
    split
    · rename_i h
      have := madeL_len (to := to) r (i + 1) (room - (1 + Int.tmod (bitsOp .and IntKind.i64 c 65535) room)) (by omega)
      simp; omega
    · simp

section
variable {B : Base} {n : Nat} {H : Heap} {Q : AV → Heap → Prop} {l : List Tab} {x : List Nat} {lv : Nat} {x1 : AV} {a u : Int}

abbrev X9 (H : Heap) (l : List Tab) : AV := .slice (.new (H.length + 1)) 0 l.length 1 (some l.length)

theorem f4_behind (hn : n = H.length) (hH : LowH n H) (hv1 : Low n x1) (hok : ∀ t ∈ l, t.Ok) (hsz : l.length ≤ 600)
    (h : J4_18 B (Cl B) n (wV H.length 36 (l.map Tab.row)) x1 (.bool true) (.int .i64 ((lv : Int) + 1)) a u (wV (H.length + 2) 36 ((behL x 0 l).map Tab.row)) (H ++ [.arr (l.map Tab.row).flatten, .arr ((markF l.length x).map brow).flatten, .arr ((behL x 0 l).map Tab.row).flatten]) Q) :
    ∀ (rest : List Tab) (i : Nat) (acc : List Tab), l.drop i = rest → (∀ t ∈ acc, t.Ok) → acc.length ≤ i → acc ++ behL x i rest = behL x 0 l →
      L4_12 B (Cl B) n (wV H.length 36 (l.map Tab.row)) x1 (.bool true) (.int .i64 ((lv : Int) + 1)) (X9 H l) a u (wV (H.length + 2) 36 (acc.map Tab.row)) (i : Int) (H ++ [.arr (l.map Tab.row).flatten, .arr ((markF l.length x).map brow).flatten, .arr (acc.map Tab.row).flatten]) Q
  | [], i, acc, hd, hacc, hal, ha => by
    have hl := drop_nil hd
    refine L4_12_in (ACall.cle B table) ?_
    rw [wV_len', ob_some, List.length_map]
    refine bs_dec (fun h1 => by omega) fun _ => ?_
    simp only [behL, List.append_nil] at ha
    rw [ha]; exact h
  | t :: r, i, acc, hd, hacc, hal, ha => by
    obtain ⟨hget, hlt, hd'⟩ := drop_cons hd
    have ht : t.Ok := hok t (List.mem_of_getElem? hget)
    generalize hG : H ++ [AObj.arr (l.map Tab.row).flatten, .arr ((markF l.length x).map brow).flatten, .arr (acc.map Tab.row).flatten] = G
    have s0 : Sl B G 36 (wV H.length 36 (l.map Tab.row)) (l.map Tab.row) := wV_sl (by rw [← hG, get_app0]; rfl) (tabs_len hok)
    have s9 : Sl B G 1 (X9 H l) ((markF l.length x).map brow) := marks_sl (markF_len _ _) (by rw [← hG, get_app]; rfl)
    have r9 : ((markF l.length x).map brow)[i]? = some (brow (decide (i ∈ x))) := by rw [List.getElem?_map, markF_get hlt]; rfl
    refine L4_12_in (ACall.cle B table) ?_
    rw [wV_len', ob_some, List.length_map]
    refine bs_dec (fun _ => ?_) fun h1 => by omega
    refine J4_11_in (op_idx s9 (by rw [List.length_map, markF_len]; exact hlt) ?_)
    rw [(s9.el r9).peek0 (v := .bool (decide (i ∈ x))) rfl, ob_some]
    have op_not : ∀ {b : Bool} {K : AV → Heap → Prop}, K (.bool (!b)) G → aop B E0 G K (.not (.const (.bool b))) := fun {b K} h => by
      simp only [aop, opK, Opd.look, ob_some, pBool_bool]
      cases b <;> exact h
    refine tyK_bool (op_not (J4_9_in ?_))
    rw [pBool_bool]
    simp only [behL] at ha
    by_cases hm : i ∈ x
    · rw [if_pos hm] at ha
      rw [if_neg (by simp [hm])]
      refine J4_10_in ?_
      rw [w64 (n := (i : Int) + 1) (by omega), ← hG]
      exact f4_behind hn hH hv1 hok hsz h r (i + 1) acc hd' hacc (by omega) ha
    · rw [if_neg hm] at ha
      rw [if_pos (by simp [hm])]
      refine op_idx s0 (tab_lt hget) ?_
      rw [(tab_row s0 hget).peekN ht.len, ob_some, lay_row (n := 36) (by rfl) ht.len, ob_some]
      refine slK_in (op_appendE (k := H.length + 2) (rows1 := acc.map Tab.row) (by rw [← hG, List.append_assoc, get_app]; rfl) (tabs_len hacc) (sl_row1 ht.len) (by simp) (by simp [maxBytes]; omega) fun o => ?_)
      have e : acc.map Tab.row ++ [t.row] = (acc ++ [t]).map Tab.row := by simp
      have hacc' : ∀ t' ∈ acc ++ [t], t'.Ok := ok_app hacc fun u hu => by rw [List.mem_singleton.1 hu]; exact ht
      have e2 : (G ++ [AObj.arr t.row]).set (H.length + 2) o ++ [.arr ((acc ++ [t]).map Tab.row).flatten]
          = H ++ [AObj.arr (l.map Tab.row).flatten, .arr ((markF l.length x).map brow).flatten, o, .arr t.row, .arr ((acc ++ [t]).map Tab.row).flatten] := by
        rw [← hG, List.append_assoc, set_app]; simp
      have e3 : (G ++ [AObj.arr t.row]).length = H.length + 4 := by rw [← hG]; simp
      rw [e, e2, e3]
      refine J4_10_in ?_
      rw [w64 (n := (i : Int) + 1) (by omega)]
      refine L4_12_tidy (y0 := wV H.length 36 (l.map Tab.row)) (y1 := x1) (y5 := .bool true) (y7 := .int .i64 ((lv : Int) + 1)) (y9 := X9 H l) (y14 := wV (H.length + 2) 36 ((acc ++ [t]).map Tab.row))
        (sel3 hn hH (a := 0) (b := 1) (c := 4) rfl (arr_flat hok) rfl (brows_flat _) rfl (arr_flat hacc') (by decide) (by decide) (by decide)) (wV_rv ?_ (by simp)) (low_pick (by subst hn; simp) hv1) rfl rfl ⟨?_, ?_⟩ (wV_rv ?_ (by simp))
        (f4_behind hn hH hv1 hok hsz h r (i + 1) (acc ++ [t]) hd' hacc' (by simp; omega) (by simpa using ha))
      · rw [← hn, pick_at0]; rfl
      · simp [Id.ok]
      · simp only [Id.ren, X9]; rw [← hn, pick_n1]; rfl
      · rw [← hn, pick_n2]; rfl

theorem tmod_room (c : Int) {room : Int} (h0 : 0 < room) : 0 ≤ Int.tmod (bitsOp .and IntKind.i64 c 65535) room ∧ Int.tmod (bitsOp .and IntKind.i64 c 65535) room < room := by
  have h : ∃ j : Nat, bitsOp .and IntKind.i64 c 65535 = j := by
    refine ⟨(BitVec.ofInt 64 c &&& BitVec.ofInt 64 65535).toNat, ?_⟩
    show IntKind.i64.wrap ((BitVec.ofInt 64 c &&& BitVec.ofInt 64 65535).toNat : Int) = _
    have : (BitVec.ofInt 64 c &&& BitVec.ofInt 64 65535).toNat ≤ 65535 := by
      rw [BitVec.toNat_and]
      exact Nat.and_le_right
    exact w64 (by omega)
  obtain ⟨j, hj⟩ := h
  rw [hj, Int.tmod_eq_emod_of_nonneg (by omega)]
  exact ⟨Int.emod_nonneg _ (by omega), Int.emod_lt_of_pos _ h0⟩

theorem f4_made {mk : AObj} {cs : List Int} {room0 : Int} {beh : List Tab} (hn : n = H.length) (hH : LowH n H) (hv1 : Low n x1) (hok : ∀ t ∈ l, t.Ok) (hmk : flatO mk) (hs1 : Sl B H 1 x1 (cs.map zrow)) (hsz : beh.length ≤ 600) (hbok : ∀ t ∈ beh, t.Ok)
    (h : J4_17 B (Cl B) n (wV H.length 36 (l.map Tab.row)) (.bool true) (.int .i64 ((lv : Int) + 1)) u (wV (H.length + 2) 36 ((beh ++ madeL ((lv : Int) + 1) 0 room0 cs).map Tab.row)) (H ++ [.arr (l.map Tab.row).flatten, mk, .arr ((beh ++ madeL ((lv : Int) + 1) 0 room0 cs).map Tab.row).flatten]) Q) :
    ∀ (rest : List Int) (i : Nat) (acc : List Tab) (room : Int), cs.drop i = rest → (∀ t ∈ acc, t.Ok) → acc.length ≤ beh.length + i → i ≤ 50 → 0 ≤ room ∧ room ≤ 100000 → acc ++ madeL ((lv : Int) + 1) i room rest = beh ++ madeL ((lv : Int) + 1) 0 room0 cs →
      L4_16 B (Cl B) n (wV H.length 36 (l.map Tab.row)) x1 (.bool true) (.int .i64 ((lv : Int) + 1)) room u (wV (H.length + 2) 36 (acc.map Tab.row)) (i : Int) (H ++ [.arr (l.map Tab.row).flatten, mk, .arr (acc.map Tab.row).flatten]) Q
  | rest, i, acc, room, hd, hacc, hal, hi50, hroom, ha => by
    have s1 : ∀ {L}, Sl B (H ++ L) 1 x1 (cs.map zrow) := fun {L} => hs1.pre
    have stop : madeL ((lv : Int) + 1) i room rest = [] → J4_13 B (Cl B) n (wV H.length 36 (l.map Tab.row)) x1 (.bool true) (.int .i64 ((lv : Int) + 1)) room u (wV (H.length + 2) 36 (acc.map Tab.row)) (i : Int) (.bool false) (H ++ [.arr (l.map Tab.row).flatten, mk, .arr (acc.map Tab.row).flatten]) Q := fun he => by
      rw [he, List.append_nil] at ha
      refine J4_13_in ?_
      rw [pBool_bool, if_neg (by simp), ha]
      exact h
    refine L4_16_in (ACall.cle B table) ?_
    rw [hs1.len, ob_some, List.length_map]
    match rest, hd, ha, stop with
    | [], hd, ha, stop =>
      have := drop_nil hd
      exact bs_dec (fun h1 => by omega) fun _ => stop rfl
    | c :: r, hd, ha, stop =>
    obtain ⟨hget, hlt, hd'⟩ := drop_cons hd
    refine bs_dec (fun _ => ?_) fun h1 => by omega
    by_cases h50 : i < 50
    · refine bs_yes (by simp; omega) ?_
      by_cases hr : room > 0
      · refine ib_gt_yes hr (J4_13_in ?_)
        rw [pBool_bool, if_pos rfl]
        have r1 : (cs.map zrow)[i]? = some (zrow c) := by simp [hget]
        refine op_idx s1 (by rw [List.length_map]; exact hlt) ?_
        rw [(s1.el r1).peek0 (v := .int .i64 c) rfl, ob_some, pInt_int, if_neg (by omega)]
        simp only [madeL] at ha
        rw [if_pos ⟨h50, hr⟩] at ha
        obtain ⟨hm1, hm2⟩ := tmod_room c hr
        generalize hm : Int.tmod (bitsOp .and IntKind.i64 c 65535) room = m at *
        refine J4_15_in ?_
        rw [w64 (n := 1 + m) (by omega), w64 (n := room - (1 + m)) (by omega)]
        refine J4_14_in ?_
        have ht : (tab ((lv : Int) + 1) (1 + m) [] []).Ok := tab_ok _ _ _ _
        rw [show layParts _ [(0, 1, .int .i64 ((lv : Int) + 1)), (1, 1, .int .i64 (1 + m))] = some (tab ((lv : Int) + 1) (1 + m) [] []).row from by kernel_rfl, ob_some, lay_row (n := 36) (by rfl) ht.len, ob_some]
        generalize hT : tab ((lv : Int) + 1) (1 + m) [] [] = t at *
        generalize hG : H ++ [AObj.arr (l.map Tab.row).flatten, mk, .arr (acc.map Tab.row).flatten] = G
        refine slK_in (op_appendE (k := H.length + 2) (rows1 := acc.map Tab.row) (by rw [← hG, List.append_assoc, get_app]; rfl) (tabs_len hacc) (sl_row1 ht.len) (by simp) (by simp [maxBytes]; omega) fun o => ?_)
        have e : acc.map Tab.row ++ [t.row] = (acc ++ [t]).map Tab.row := by simp
        have hacc' : ∀ t' ∈ acc ++ [t], t'.Ok := ok_app hacc fun u hu => by rw [List.mem_singleton.1 hu]; exact ht
        have e2 : (G ++ [AObj.arr t.row]).set (H.length + 2) o ++ [.arr ((acc ++ [t]).map Tab.row).flatten]
            = H ++ [AObj.arr (l.map Tab.row).flatten, mk, o, .arr t.row, .arr ((acc ++ [t]).map Tab.row).flatten] := by
          rw [← hG, List.append_assoc, set_app]; simp
        have e3 : (G ++ [AObj.arr t.row]).length = H.length + 4 := by rw [← hG]; simp
        rw [e, e2, e3, w64 (n := (i : Int) + 1) (by omega)]
        refine L4_16_tidy (y0 := wV H.length 36 (l.map Tab.row)) (y1 := x1) (y5 := .bool true) (y7 := .int .i64 ((lv : Int) + 1)) (y14 := wV (H.length + 2) 36 ((acc ++ [t]).map Tab.row))
          (sel3 hn hH (a := 0) (b := 1) (c := 4) rfl (arr_flat hok) rfl hmk rfl (arr_flat hacc') (by decide) (by decide) (by decide)) (wV_rv ?_ (by simp)) (low_pick (by subst hn; simp) hv1) rfl rfl (wV_rv ?_ (by simp))
          (f4_made hn hH hv1 hok hmk hs1 hsz hbok h r (i + 1) (acc ++ [t]) (room - (1 + m)) hd' hacc' (by simp; omega) (by omega) (by omega) (by simpa using ha))
        · rw [← hn, pick_at0]; rfl
        · rw [← hn, pick_n2]; rfl
      · exact ib_gt_no hr (stop (by simp only [madeL]; rw [if_neg (fun h => hr h.2)]))
    · exact bs_no (by simp; omega) (stop (by simp only [madeL]; rw [if_neg (fun h => h50 h.1)]))
end

end Go.Am
