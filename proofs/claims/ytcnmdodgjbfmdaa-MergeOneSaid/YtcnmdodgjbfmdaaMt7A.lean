/- The law MergeOne: it holds. -/
import Derived.Test.YtcnmdodgjbfmdaaMt5A
import Derived.Test.YtcnmdodgjbfmdaaAg7
namespace Go.Am
open Go

/-! ### In plain Lean -/
def eld (e : E) : E := ⟨e.key, [101, 108, 100, 101, 114], false, 1⟩
def elderF : List E → List Bool → List E
  | [], _ => []
  | e :: r, ks => (if ks.head? = some true then [eld e] else []) ++ elderF r ks.tail
def wantF (bot : Bool) : List E → List E
  | [] => []
  | e :: r => (if bot = false ∨ e.del = false then [e] else []) ++ wantF bot r
theorem elder_keys : ∀ (a : List E) (ks : List Bool), ((elderF a ks).map E.key).Sublist (a.map E.key)
  | [], _ => List.Sublist.slnil
  | e :: r, ks => by
    rw [elderF]
    split
    · exact List.Sublist.cons_cons _ (elder_keys r ks.tail)
    · exact List.Sublist.cons _ (elder_keys r ks.tail)
theorem elder_len (a : List E) (ks : List Bool) : (elderF a ks).length ≤ a.length := by
  have := (elder_keys a ks).length_le
  simpa using this
theorem elder_rise {a : List E} {ks : List Bool} (h : Rise a) : Rise (elderF a ks) := rise_keys.2 (List.Pairwise.sublist (elder_keys a ks) (rise_keys.1 h))
theorem want_mem {bot : Bool} {x : E} : ∀ {a : List E}, x ∈ wantF bot a ↔ x ∈ a ∧ (bot && x.del) = false
  | [] => ⟨fun h => (List.not_mem_nil h).elim, fun h => (List.not_mem_nil h.1).elim⟩
  | e :: r => by
    rw [wantF, List.mem_append, want_mem (a := r), List.mem_cons]
    constructor
    · rintro (h | ⟨h1, h2⟩)
      · split at h
        · rename_i hc
          rw [List.mem_singleton] at h; subst h
          refine ⟨.inl rfl, ?_⟩
          rcases hc with hc | hc <;> rw [hc] <;> simp
        · cases h
      · exact ⟨.inr h1, h2⟩
    · rintro ⟨h1 | h1, h2⟩
      · subst h1
        refine .inl ?_
        rw [if_pos (by cases bot <;> cases hd : x.del <;> simp_all)]
        exact List.mem_singleton.2 rfl
      · exact .inr ⟨h1, h2⟩
theorem want_sub (bot : Bool) : ∀ a : List E, (wantF bot a).Sublist a
  | [] => List.Sublist.slnil
  | e :: r => by
    rw [wantF]
    split
    · exact List.Sublist.cons_cons _ (want_sub bot r)
    · exact List.Sublist.cons _ (want_sub bot r)
theorem want_false : ∀ a : List E, wantF false a = a
  | [] => rfl
  | e :: r => by rw [wantF, if_pos (.inl rfl), want_false r]; rfl
theorem one_gen {ls : List (List E)} {a : List E} {bot : Bool} (hls : ∀ l, l ∈ ls → Rise l) (ha : Rise a) (hk : ∀ key, look key ls = getE key a) : mergeL ls bot = wantF bot a := by
  refine (mergeL_rise hls).ext (List.Pairwise.sublist (want_sub bot a) ha) fun e => ?_
  rw [mergeL_mem hls, want_mem, hk, getE_iff ha]
theorem one_1 {a : List E} {bot : Bool} (ha : Rise a) : mergeL [a] bot = wantF bot a :=
  one_gen (fun l hl => by simp at hl; rw [hl]; exact ha) ha fun key => by rw [look_cons]; cases getE key a <;> rfl
theorem one_3 {a : List E} {bot : Bool} (ha : Rise a) : mergeL [a, a, a] bot = wantF bot a :=
  one_gen (fun l hl => by simp at hl; rw [hl]; exact ha) ha fun key => by
    rw [look_cons, look_cons, look_cons]; cases getE key a <;> rfl
theorem one_4 {a : List E} {ks : List Bool} {bot : Bool} (ha : Rise a) : mergeL [[], a, elderF a ks, []] bot = wantF bot a :=
  one_gen (fun l hl => by
    simp at hl; rcases hl with rfl | rfl | rfl | rfl
    · exact List.Pairwise.nil
    · exact ha
    · exact elder_rise ha
    · exact List.Pairwise.nil) ha fun key => by
    rw [look_cons, look_cons, look_cons, look_cons]
    cases hg : getE key a with
    | some x => rfl
    | none =>
      have : getE key (elderF a ks) = none := getE_none.2 fun e he hk => by
        have := (elder_keys a ks).subset (List.mem_map.2 ⟨e, he, rfl⟩)
        obtain ⟨x, hx, hxk⟩ := List.mem_map.1 this
        exact getE_none.1 hg x hx (hxk.trans hk)
      rw [this]; rfl

/-! ### A slice that grows, by itself -/
def GS (H G : Heap) (es : Nat) (v : AV) (rows : List (List AV)) : Prop :=
  (∀ r, r ∈ rows → r.length = es) ∧ ((v = .nils ∧ rows = []) ∨ ∃ q, v = .slice (.new q) 0 rows.length es none ∧ H.length ≤ q ∧ G[q]? = some (.arr rows.flatten))

section
variable {B : Base} {n : Nat} {H G : Heap} {Q : AV → Heap → Prop}

theorem GS.sl {es : Nat} {v : AV} {rows : List (List AV)} (h : GS H G es v rows) : Sl B G es v rows := by
  obtain ⟨h0, h1 | ⟨q, rfl, _, hg⟩⟩ := h
  · exact ⟨h0, .inl h1⟩
  · exact ⟨h0, .inr ⟨_, _, _, rfl, cellsAt_iff'.2 ⟨rows.flatten, by simp only [cellsOf, hg], by rw [flatten_len h0]; omega, by rw [List.drop_zero, ← flatten_len h0, List.take_length]⟩⟩⟩
theorem op_appGS {K : AV → Heap → Prop} {es bytes : Nat} {v : AV} {rows : List (List AV)} {row : List AV} (hp : ∃ L, G = H ++ L) (hg : GS H G es v rows) (hr : row.length = es) (hb : (rows.length + 1) * bytes ≤ maxBytes)
    (hk : ∀ v' G', (∃ L, G' = H ++ L) → GS H G' es v' (rows ++ [row]) → K v' G') : aop B E0 (G ++ [.arr row]) K (.append es bytes (.const v) (.const (.slice (.new G.length) 0 1 es (some 1)))) := by
  have hu : Sl B (G ++ [.arr row]) es (.slice (.new G.length) 0 1 es (some 1)) [row] := sl_row1 hr
  have hel : elemsOf B (G ++ [.arr row]) (.slice (.new G.length) 0 1 es (some 1)) = some row := by simpa using hu.elems
  have hlen : (G ++ [AObj.arr row]).length = G.length + 1 := by rw [List.length_append]; rfl
  obtain ⟨L, hL⟩ := hp
  have hHG : H.length ≤ G.length := by rw [hL, List.length_append]; omega
  have hrows : ∀ r, r ∈ rows ++ [row] → r.length = es := fun r hm => by
    rcases List.mem_append.1 hm with hm | hm
    · exact hg.1 r hm
    · rw [List.mem_singleton.1 hm]; exact hr
  obtain ⟨h0, ⟨rfl, rfl⟩ | ⟨q, rfl, hq, hgq⟩⟩ := hg
  · refine op_app rfl hel (by omega) (appendTo_nil (by decide) (by simpa using hb)) (hk _ _ ?_ ⟨hrows, .inr ⟨_, rfl, by rw [hlen]; omega, ?_⟩⟩)
    · rw [hL, List.append_assoc, List.append_assoc]; exact ⟨_, rfl⟩
    · rw [get_app0]; simp
  · have hc : cellsAt B (G ++ [.arr row]) (.new q) 0 (rows.length * es) = some rows.flatten :=
      cellsAt_iff'.2 ⟨rows.flatten, by simp only [cellsOf, get_pre hgq], by rw [flatten_len h0]; omega, by rw [List.drop_zero, ← flatten_len h0, List.take_length]⟩
    refine op_app rfl hel (by omega) (appendTo_own (by decide) hb hc) (hk _ _ ?_ ⟨hrows, .inr ⟨(G ++ [AObj.arr row]).length, by simp only [List.length_append, List.length_singleton], by rw [hlen]; omega, ?_⟩⟩)
    · rw [hL, List.append_assoc, List.set_append_right _ _ hq, List.append_assoc]; exact ⟨_, rfl⟩
    · have e : (G ++ [AObj.arr row]).length = ((G ++ [AObj.arr row]).set q .gone).length := (List.length_set ..).symm
      rw [e, get_app0]; simp

def brow' (b : Bool) : List AV := [.bool b]

theorem elder_loop {x1 x8 : AV} {a : List E} {ks : List Bool} {bot : Bool} (ha : Sl B H 4 x8 (a.map E.row)) (hk1 : Sl B H 1 x1 (ks.map brow')) (hb : a.length ≤ 1000) (hq : ∀ v G, (∃ L, G = H ++ L) → GS H G 4 v ((elderF a ks).map E.row) → J7_13 B (Cl B) n bot (.bool true) x8 v G Q) :
    ∀ (r : List E) (i : Nat) (v : AV) (out : List E) (G : Heap), a.drop i = r → (∃ L, G = H ++ L) → GS H G 4 v (out.map E.row) → out.length ≤ i → out ++ elderF r (ks.drop i) = elderF a ks → L7_3 B (Cl B) n x1 bot (.bool true) x8 v (i : Int) G Q := by
  have hbig : maxBytes = 140737488355328 := rfl
  intro r
  induction r with
  | nil =>
    intro i v out G hd hp hg hl he
    have := drop_nil hd
    refine L7_3_in (ACall.cle B table) ?_
    rw [ha.len, ob_some, List.length_map]
    refine bs_no (decide_eq_false (by omega)) (hq v G hp ?_)
    rw [← he, elderF, List.append_nil]; exact hg
  | cons e r ih =>
    intro i v out G hd hp hg hl he
    obtain ⟨g1, g2, g3⟩ := drop_cons hd
    obtain ⟨L, hL⟩ := hp
    have haG : Sl B G 4 x8 (a.map E.row) := by rw [hL]; exact ha.pre
    have hkG : Sl B G 1 x1 (ks.map brow') := by rw [hL]; exact hk1.pre
    refine L7_3_in (ACall.cle B table) ?_
    rw [ha.len, ob_some, List.length_map]
    refine bs_yes (decide_eq_true (by omega)) (J7_2_in ?_)
    rw [hk1.len, ob_some, List.length_map]
    have hstep : elderF (e :: r) (ks.drop i) = (if ks[i]? = some true then [eld e] else []) ++ elderF r (ks.drop (i + 1)) := by
      rw [elderF, List.head?_drop, List.tail_drop]
    rw [hstep] at he
    have next : ∀ (v' : AV) (out' : List E) (G' : Heap), (∃ L, G' = H ++ L) → GS H G' 4 v' (out'.map E.row) → out'.length ≤ i + 1 → out' ++ elderF r (ks.drop (i + 1)) = elderF a ks → J7_1 B (Cl B) n x1 bot (.bool true) x8 v' (i : Int) G' Q := fun v' out' G' a1 a2 a3 a4 => by
      refine J7_1_in ?_
      rw [w64 (by omega)]
      exact ih (i + 1) v' out' G' g3 a1 a2 a3 a4
    have main : ∀ b : Bool, (b = true ↔ ks[i]? = some true) → J7_0 B (Cl B) n x1 bot (.bool true) x8 v (i : Int) (.bool b) G Q := fun b hb' => by
      refine J7_0_in ?_
      rw [pBool_bool]
      split
      · rename_i hbt
        rw [if_pos (hb'.1 hbt)] at he
        have hr : (a.map E.row)[i]? = some e.row := by rw [List.getElem?_map, g1]; rfl
        refine op_idx haG (by rw [List.length_map]; exact g2) (op_fld (haG.el hr) ?_)
        rw [(haG.el hr).fld (off := 0) (v := .str e.key) rfl, ob_some, pStr_str]
        rw [show layParts [(.str []), (.str []), (.bool false), (.int .i64 0)] [(0, 1, .str e.key), (1, 1, (.str [101, 108, 100, 101, 114])), (3, 1, .int .i64 (1))] = some (eld e).row from rfl, ob_some]
        rw [show layParts [(.str []), (.str []), (.bool false), (.int .i64 0)] [(0, 4, .agg (eld e).row)] = some (eld e).row from lay_row (n := 4) rfl rfl, ob_some]
        refine slK_in (op_appGS ⟨L, hL⟩ hg rfl (by rw [List.length_map]; omega) fun v' G' p1 p2 => ?_)
        refine next v' (out ++ [eld e]) G' p1 (by rw [List.map_append]; exact p2) (by simp; omega) (by rw [← he, List.append_assoc])
      · rename_i hbt
        rw [if_neg (fun h => hbt (hb'.2 h)), List.nil_append] at he
        exact next v out G ⟨L, hL⟩ hg (by omega) he
    refine bs_dec (fun hlt => ?_) fun hge => main false ?_
    · have hlt : i < ks.length := by omega
      have hr : (ks.map brow')[i]? = some [.bool ks[i]] := by rw [List.getElem?_map, List.getElem?_eq_getElem hlt]; rfl
      refine op_idx hkG (by rw [List.length_map]; exact hlt) ?_
      rw [(hkG.el hr).peek0 (v := .bool ks[i]) rfl, ob_some]
      refine tyK_bool (main _ ?_)
      rw [List.getElem?_eq_getElem hlt]; simp
    · rw [List.getElem?_eq_none (by omega)]; simp

theorem want_loop {x8 x9 : AV} {a : List E} (ha : Sl B H 4 x8 (a.map E.row)) (hb : a.length ≤ 1000) (hq : ∀ v G, (∃ L, G = H ++ L) → GS H G 4 v ((wantF true a).map E.row) → J7_11 B (Cl B) n true (.bool true) x8 x9 v G Q) :
    ∀ (r : List E) (i : Nat) (v : AV) (out : List E) (G : Heap), a.drop i = r → (∃ L, G = H ++ L) → GS H G 4 v (out.map E.row) → out.length ≤ i → out ++ wantF true r = wantF true a → L7_7 B (Cl B) n true (.bool true) x8 x9 v (i : Int) G Q := by
  have hbig : maxBytes = 140737488355328 := rfl
  intro r
  induction r with
  | nil =>
    intro i v out G hd hp hg hl he
    have := drop_nil hd
    refine L7_7_in (ACall.cle B table) ?_
    rw [ha.len, ob_some, List.length_map]
    refine bs_no (decide_eq_false (by omega)) (hq v G hp ?_)
    rw [← he, wantF, List.append_nil]; exact hg
  | cons e r ih =>
    intro i v out G hd hp hg hl he
    obtain ⟨g1, g2, g3⟩ := drop_cons hd
    obtain ⟨L, hL⟩ := hp
    have haG : Sl B G 4 x8 (a.map E.row) := by rw [hL]; exact ha.pre
    refine L7_7_in (ACall.cle B table) ?_
    rw [ha.len, ob_some, List.length_map]
    have hr : (a.map E.row)[i]? = some e.row := by rw [List.getElem?_map, g1]; rfl
    have hil : i < (a.map E.row).length := by rw [List.length_map]; exact g2
    refine bs_yes (decide_eq_true (by omega)) (J7_6_in (op_idx haG hil (op_fld (haG.el hr) ?_)))
    rw [(haG.el hr).fld (off := 2) (v := .bool e.del) rfl, ob_some]
    have next : ∀ (v' : AV) (out' : List E) (G' : Heap), (∃ L, G' = H ++ L) → GS H G' 4 v' (out'.map E.row) → out'.length ≤ i + 1 → out' ++ wantF true r = wantF true a → J7_5 B (Cl B) n true (.bool true) x8 x9 v' (i : Int) G' Q := fun v' out' G' a1 a2 a3 a4 => by
      refine J7_5_in ?_
      rw [w64 (by omega)]
      exact ih (i + 1) v' out' G' g3 a1 a2 a3 a4
    rw [wantF] at he
    refine tyK_bool (op_notB (J7_4_in ?_))
    rw [pBool_bool]
    split
    · rename_i hd'
      have hd' : e.del = false := by simpa using hd'
      rw [if_pos (.inr hd')] at he
      refine op_idx haG hil ?_
      rw [(haG.el hr).peekN (n := 4) rfl, ob_some]
      rw [show layParts [(.str []), (.str []), (.bool false), (.int .i64 0)] [(0, 4, .agg e.row)] = some e.row from lay_row (n := 4) rfl rfl, ob_some]
      refine slK_in (op_appGS ⟨L, hL⟩ hg rfl (by rw [List.length_map]; omega) fun v' G' p1 p2 => ?_)
      exact next v' (out ++ [e]) G' p1 (by rw [List.map_append]; exact p2) (by simp; omega) (by rw [← he, List.append_assoc])
    · rename_i hd'
      have hd' : e.del = true := by simpa using hd'
      rw [if_neg (by simp [hd']), List.nil_append] at he
      exact next v out G ⟨L, hL⟩ hg (by omega) he

theorem f7_ok {x x1 : AV} {l : List E} {ks : List Bool} {bot : Bool} (hx : Sl B H 4 x (l.map E.row)) (hk : Sl B H 1 x1 (ks.map brow')) (hq : ∀ G, Q (.bool true) G) : Cl B 7 [x, x1, .bool bot] H Q := by
  refine f7_in fun n cl hn hcl hH hA => J7_17_in ?_
  subst hcl
  refine f9_ok fun L1 => tyK_bool (J7_16_in ?_)
  have hx1 := hx.pre (L := L1)
  have hk1 := hk.pre (L := L1)
  generalize H ++ L1 = G1 at hx1 hk1 ⊢
  obtain ⟨y1, y2⟩ := ls_one hx1
  rw [y1, ob_some]
  refine slK_in (f14_ok y2 fun j L2 ts1 o1 e1 => wV_live _ _ _ _ ?_)
  have hk2 := (hk1.pre (L := [.arr [x]])).pre (L := L2)
  have hown := o1.ls (B := B)
  obtain ⟨t, rfl⟩ : ∃ t, ts1 = [t] := by
    have := congrArg List.length e1
    simp [small] at this
    exact List.length_eq_one_iff.1 this
  have ht : t.2 = foldF (l.take 60) := by simpa [small] using e1
  have ha : Sl B (G1 ++ [.arr [x]] ++ L2) 4 t.1 (t.2.map E.row) := hown.2 t (by simp)
  have hrise : Rise t.2 := by rw [ht]; exact foldF_rise _
  have hlen : t.2.length ≤ 60 := by
    rw [ht]
    have := foldF_len (l.take 60)
    rw [List.length_take] at this; omega
  generalize G1 ++ [AObj.arr [x]] ++ L2 = G2 at hk2 hown ha ⊢
  refine op_idx' (i := 0) hown.1 rfl (by simp) ?_
  rw [(hown.1.el (i := 0) (row := [t.1]) rfl).peek0 (v := t.1) rfl, ob_some]
  refine Sl.live ha _ (J7_15_in (J7_14_in ?_))
  obtain ⟨x8, a⟩ := t
  simp only at ha hrise hlen ⊢
  refine elder_loop ha hk2 (by omega) (fun v9 G3 p3 g3 => J7_13_in (J7_12_in ?_)) a 0 .nils [] G2 rfl ⟨[], (List.append_nil _).symm⟩ ⟨fun r hr => by simp at hr, .inl ⟨rfl, rfl⟩⟩ (Nat.le_refl _) rfl
  obtain ⟨L3, rfl⟩ := p3
  have hel := g3.sl (B := B)
  have ha3 := ha.pre (L := L3)
  generalize G2 ++ L3 = G3 at hel ha3 ⊢
  have hwl : (wantF bot a).length ≤ 60 := Nat.le_trans (want_sub bot a).length_le hlen
  have helen := elder_len a ks
  -- the three merges
  have fin : ∀ (w : AV) (G4 : Heap), (∃ L, G4 = G3 ++ L) → Sl B G4 4 w ((wantF bot a).map E.row) → J7_11 B (Cl B) n bot (.bool true) x8 v9 w G4 Q := fun w G4 p4 hw => by
    obtain ⟨L4, rfl⟩ := p4
    have ha4 := ha3.pre (L := L4)
    have hel4 := hel.pre (L := L4)
    generalize G3 ++ L4 = G4 at ha4 hel4 hw ⊢
    refine J7_11_in ?_
    obtain ⟨z1, z2⟩ := ls_one ha4
    rw [z1, ob_some]
    refine slK_in (f11_L z2 (by simp) (by simp only [List.map_cons, List.map_nil, tot, List.sum_cons, List.sum_nil]; omega) fun v1 L5 s1 => Sl.live s1 _ ?_)
    simp only [List.map_cons, List.map_nil] at s1
    rw [one_1 hrise] at s1
    have hw1 := (hw.pre (L := [.arr [x8]])).pre (L := L5)
    refine f12_ok s1 hw1 (by omega) (tyK_bool (J7_10_in ?_))
    rw [decide_eq_true rfl]
    have ha5 := (ha4.pre (L := [.arr [x8]])).pre (L := L5)
    have hel5 := (hel4.pre (L := [.arr [x8]])).pre (L := L5)
    generalize G4 ++ [AObj.arr [x8]] ++ L5 = G5 at ha5 hel5 hw1 ⊢
    rw [show layParts [.nils, .nils, .nils] [(0, 1, x8), (1, 1, x8), (2, 1, x8)] = some [x8, x8, x8] from by simp only [layParts, sl_cells ha5]; rfl, ob_some]
    have l3 : Ls B (G5 ++ [.arr [x8, x8, x8]]) (.slice (.new G5.length) 0 3 1 (some 3)) [(x8, a), (x8, a), (x8, a)] := ⟨sl_rows rfl rfl (fun r hr => by simp at hr; rcases hr with rfl; rfl), fun t ht => by
      simp at ht; rcases ht with rfl; exact ha5.pre⟩
    refine slK_in (f11_L l3 (by simp) (by simp only [List.map_cons, List.map_nil, tot, List.sum_cons, List.sum_nil]; omega) fun v2 L6 s2 => Sl.live s2 _ ?_)
    simp only [List.map_cons, List.map_nil] at s2
    rw [one_3 hrise] at s2
    have hw2 := (hw1.pre (L := [.arr [x8, x8, x8]])).pre (L := L6)
    refine f12_ok s2 hw2 (by omega) (tyK_bool (J7_9_in ?_))
    rw [decide_eq_true rfl]
    have ha6 := (ha5.pre (L := [.arr [x8, x8, x8]])).pre (L := L6)
    have hel6 := (hel5.pre (L := [.arr [x8, x8, x8]])).pre (L := L6)
    generalize G5 ++ [AObj.arr [x8, x8, x8]] ++ L6 = G6 at ha6 hel6 hw2 ⊢
    rw [show layParts [.nils, .nils, .nils, .nils] [(0, 1, .nils), (1, 1, x8), (2, 1, v9), (3, 1, .nils)] = some [.nils, x8, v9, .nils] from by simp only [layParts, sl_cells ha6, sl_cells hel6]; rfl, ob_some]
    have l4 : Ls B (G6 ++ [.arr [.nils, x8, v9, .nils]]) (.slice (.new G6.length) 0 4 1 (some 4)) [(.nils, []), (x8, a), (v9, elderF a ks), (.nils, [])] := ⟨sl_rows rfl rfl (fun r hr => by simp at hr; rcases hr with rfl | rfl | rfl | rfl <;> rfl), fun t ht => by
      have hn : Sl B (G6 ++ [.arr [.nils, x8, v9, .nils]]) 4 .nils (([] : List E).map E.row) := ⟨fun r hr => by simp at hr, .inl ⟨rfl, rfl⟩⟩
      simp at ht; rcases ht with rfl | rfl | rfl | rfl
      · exact hn
      · exact ha6.pre
      · exact hel6.pre
      · exact hn⟩
    refine slK_in (f11_L l4 (by simp) (by simp only [List.map_cons, List.map_nil, tot, List.sum_cons, List.sum_nil, List.length_nil]; omega) fun v3 L7 s3 => Sl.live s3 _ ?_)
    simp only [List.map_cons, List.map_nil] at s3
    rw [one_4 hrise] at s3
    have hw3 := (hw2.pre (L := [.arr [.nils, x8, v9, .nils]])).pre (L := L7)
    refine f12_ok s3 hw3 (by omega) (tyK_bool (J7_8_in ?_))
    rw [decide_eq_true rfl, pGuard_bool, bs_true, pGuard_bool, bs_true, pGuard_bool, bs_true]
    exact tidy_none (hq _)
  cases bot with
  | false =>
    rw [if_neg (by decide)]
    exact fin x8 G3 ⟨[], (List.append_nil _).symm⟩ (by rw [want_false]; exact ha3)
  | true =>
    rw [if_pos rfl]
    exact want_loop ha3 (by omega) (fun v G p g => fin v G p g.sl) a 0 .nils [] G3 rfl ⟨[], (List.append_nil _).symm⟩ ⟨fun r hr => by simp at hr, .inl ⟨rfl, rfl⟩⟩ (Nat.le_refl _) rfl

end
end Go.Am
