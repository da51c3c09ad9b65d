/- The law MergeSplits: it holds. -/
import Derived.Test.YtcnmdodgjbfmdaaMrA
import Derived.Test.YtcnmdodgjbfmdaaMsB
import Derived.Test.YtcnmdodgjbfmdaaAg6
namespace Go.Am
open Go

/-- Behind H; and what C tells stands. -/
structure KW (H G : Heap) (C : Nat → Option AObj) : Prop where
  pre : ∃ L, G = H ++ L
  cs : ∀ p o, C p = some o → G[p]? = some o

section
variable {B : Base} {n : Nat} {H G : Heap} {C : Nat → Option AObj} {Q : AV → Heap → Prop}

theorem KW.lt (h : KW H G C) {p : Nat} {o : AObj} (hp : C p = some o) : p < G.length := lt_of_get (h.cs p o hp)
theorem KW.grow (h : KW H G C) (L : List AObj) : KW H (G ++ L) C := by
  obtain ⟨⟨L0, rfl⟩, h2⟩ := h
  exact ⟨⟨L0 ++ L, List.append_assoc ..⟩, fun p o hp => get_pre (h2 p o hp)⟩
theorem KW.set (h : KW H G C) {p : Nat} {o : AObj} (hp : C p = some o) (hl : H.length ≤ p) (o' : AObj) : KW H (G.set p o') (updC C p o') := by
  have hlt := h.lt hp
  obtain ⟨⟨L0, rfl⟩, h2⟩ := h
  refine ⟨set_pre hl, fun q o2 hq => ?_⟩
  unfold updC at hq
  split at hq
  · rename_i e; subst e; cases hq; exact get_set hlt
  · rename_i e; rw [get_set_ne (Ne.symm e)]; exact h2 q o2 hq
theorem KW.add (h : KW H G C) (o : AObj) : KW H (G ++ [o]) (updC C G.length o) := by
  have h1 := h.grow [o]
  refine ⟨h1.pre, fun q o2 hq => ?_⟩
  unfold updC at hq
  split at hq
  · rename_i e; subst e; cases hq; rw [get_app0]; rfl
  · exact h1.cs q o2 hq
/-- Rows of their own. -/
def Kr (C : Nat → Option AObj) (es : Nat) (v : AV) (rows : List (List AV)) : Prop :=
  (∀ r, r ∈ rows → r.length = es) ∧ ∃ q c, v = .slice (.new q) 0 rows.length es c ∧ C q = some (.arr rows.flatten)
theorem Kr.sl {es : Nat} {v : AV} {rows : List (List AV)} (h : Kr C es v rows) (hk : KW H G C) : Sl B G es v rows := by
  obtain ⟨h0, q, c, rfl, hc⟩ := h
  exact ⟨h0, .inr ⟨_, _, _, rfl, cellsAt_iff'.2 ⟨rows.flatten, by simp only [cellsOf, hk.cs q _ hc], by rw [flatten_len h0]; omega, by rw [List.drop_zero, ← flatten_len h0, List.take_length]⟩⟩⟩
theorem wV_slice {q es : Nat} {rows : List (List AV)} : ∃ c, wV q es rows = .slice (.new q) 0 rows.length es c := by
  unfold wV; split
  · rename_i h; subst h; exact ⟨_, rfl⟩
  · exact ⟨_, rfl⟩
theorem Kr.wV {q es : Nat} {rows : List (List AV)} (h0 : ∀ r, r ∈ rows → r.length = es) (hc : C q = some (.arr rows.flatten)) : Kr C es (wV q es rows) rows := by
  obtain ⟨c, e⟩ := wV_slice (q := q) (es := es) (rows := rows)
  exact ⟨h0, q, c, e, hc⟩

/-- Append of rows, where it grows by itself. -/
theorem op_appKW {K : AV → Heap → Prop} {es bytes : Nat} {v u : AV} {rows rows2 : List (List AV)} (h : KW H G C) (hg : GrC H C es v rows) (hu : Sl B G es u rows2) (hne : rows2 ≠ []) (hb : (rows.length + rows2.length) * bytes ≤ maxBytes)
    (hk : ∀ v' G' C', KW H G' C' → GrC H C' es v' (rows ++ rows2) → (∀ j, at? v' = some j → G.length ≤ j) → (∀ p o, C p = some o → at? v ≠ some p → C' p = some o) → G.length ≤ G'.length → K v' G') : aop B E0 G K (.append es bytes (.const v) (.const u)) := by
  have hl2 := flatten_len hu.1
  have hn2 : rows2.length ≠ 0 := by intro e; exact hne (List.length_eq_zero_iff.1 e)
  obtain ⟨L, hL⟩ := h.pre
  have hHG : H.length ≤ G.length := by rw [hL, List.length_append]; omega
  have hrows : ∀ r, r ∈ rows ++ rows2 → r.length = es := fun r hm => (List.mem_append.1 hm).elim (hg.1 r) (hu.1 r)
  obtain ⟨h0, ⟨rfl, rfl⟩ | ⟨q, rfl, hq, hgq⟩⟩ := hg
  · refine op_app hu.len hu.elems hl2 (appendTo_nil hn2 (by simpa using hb)) (hk _ _ _ (h.add (.arr rows2.flatten)) ⟨hrows, .inr ⟨G.length, ?_, hHG, ?_⟩⟩ (fun j hj => ?_) (fun p o hp _ => ?_) (by rw [List.length_append]; omega))
    · simp
    · rw [updC_at]; simp
    · cases hj; exact Nat.le_refl _
    · have := h.lt hp
      rw [updC_ne (by omega)]; exact hp
  · have hc : cellsAt B G (.new q) 0 (rows.length * es) = some rows.flatten :=
      cellsAt_iff'.2 ⟨rows.flatten, by simp only [cellsOf, h.cs q _ hgq], by rw [flatten_len h0]; omega, by rw [List.drop_zero, ← flatten_len h0, List.take_length]⟩
    have hql := h.lt hgq
    have h2 := (h.set hgq hq .gone).add (.arr (rows.flatten ++ rows2.flatten))
    have hlen : (G.set q AObj.gone).length = G.length := List.length_set
    refine op_app hu.len hu.elems hl2 (appendTo_own hn2 hb hc) (hk _ _ _ h2 ⟨hrows, .inr ⟨G.length, by rw [List.length_append], hHG, ?_⟩⟩ (fun j hj => ?_) (fun p o hp hne' => ?_) (by rw [List.length_append, hlen]; omega))
    · rw [hlen, updC_at]; simp
    · cases hj; exact Nat.le_refl _
    · have := h.lt hp
      rw [updC_ne (by rw [hlen]; omega), updC_ne (fun e => hne' (by rw [e]; rfl))]; exact hp

/-- What the law holds while it looks at the lists one by one. -/
structure Sp (C : Nat → Option AObj) (N : Nat) (js : Nat) (ts ws : List (AV × List E)) (x6 : AV) (i : Nat) : Prop where
  outer : C js = some (.arr (ts.map (·.1)))
  low : js < N
  inner : ∀ (p : Nat) t, ts[p]? = some t → ∃ q c, t.1 = wV q 4 (t.2.map E.row) ∧ q < N ∧ q ≠ js ∧ C q = some (.arr c) ∧ c.length = t.2.length * 4 ∧ (i ≤ p → c = (t.2.map E.row).flatten)
  nd : ts.Pairwise fun a b => ∀ q, at? a.1 = some q → at? b.1 ≠ some q
  wo : Kr C 1 x6 (ws.map lrow)
  wi : ∀ w, w ∈ ws → Kr C 4 w.1 (w.2.map E.row)
  wn : ∀ v, (v = x6 ∨ ∃ w, w ∈ ws ∧ v = w.1) → ∀ q, at? v = some q → q < N ∧ q ≠ js ∧ ∀ t, t ∈ ts → at? t.1 ≠ some q

theorem Sp.kr_keep {C' : Nat → Option AObj} {es : Nat} {v : AV} {rows : List (List AV)} (h : Kr C es v rows) (hk : ∀ q o, at? v = some q → C q = some o → C' q = some o) : Kr C' es v rows := by
  obtain ⟨h0, q, c, rfl, hc⟩ := h
  exact ⟨h0, q, c, rfl, hk q _ rfl hc⟩
theorem Sp.keep {C' : Nat → Option AObj} {N js : Nat} {ts ws : List (AV × List E)} {x6 : AV} {i : Nat} (h : Sp C N js ts ws x6 i) (hk : ∀ p o, p < N → C p = some o → C' p = some o) : Sp C' N js ts ws x6 i := by
  refine ⟨hk _ _ h.low h.outer, h.low, fun p t ht => ?_, h.nd, ?_, fun w hw => ?_, h.wn⟩
  · obtain ⟨q, c, a, b, d, e, f⟩ := h.inner p t ht
    exact ⟨q, c, a, b, d, hk _ _ b e, f⟩
  · exact Sp.kr_keep h.wo fun q o hq hc => hk _ _ (h.wn _ (.inl rfl) q hq).1 hc
  · exact Sp.kr_keep (h.wi w hw) fun q o hq hc => hk _ _ (h.wn _ (.inr ⟨w, hw, rfl⟩) q hq).1 hc
/-- An inner list is written over. -/
theorem Sp.write {N js : Nat} {ts ws : List (AV × List E)} {x6 : AV} {i : Nat} (h : Sp C N js ts ws x6 (i + 1)) {t : AV × List E} (ht : ts[i]? = some t) {q : Nat} {c c' : List AV} (hq : t.1 = wV q 4 (t.2.map E.row)) (hc : C q = some (.arr c)) (hl : c'.length = t.2.length * 4) (hqj : q ≠ js) : Sp (updC C q (.arr c')) N js ts ws x6 (i + 1) := by
  have hat : at? t.1 = some q := by rw [hq, at_wV]
  refine ⟨by rw [updC_ne (Ne.symm hqj)]; exact h.outer, h.low, fun p u hu => ?_, h.nd, ?_, fun w hw => ?_, h.wn⟩
  · obtain ⟨r, d, a1, a2, a3, a4, a5, a6⟩ := h.inner p u hu
    by_cases e : r = q
    · subst e
      -- it is the same list
      have hpi : p = i := by
        rcases Nat.lt_trichotomy p i with h1 | h1 | h1
        · obtain ⟨b1, rfl⟩ := List.getElem?_eq_some_iff.1 hu
          obtain ⟨b2, rfl⟩ := List.getElem?_eq_some_iff.1 ht
          exact absurd hat (List.pairwise_iff_getElem.1 h.nd p i b1 b2 h1 r (by rw [a1, at_wV]))
        · exact h1
        · obtain ⟨b1, rfl⟩ := List.getElem?_eq_some_iff.1 hu
          obtain ⟨b2, rfl⟩ := List.getElem?_eq_some_iff.1 ht
          exact absurd (by rw [a1, at_wV]) (List.pairwise_iff_getElem.1 h.nd i p b2 b1 h1 r hat)
      subst hpi
      rw [ht] at hu; cases hu
      exact ⟨r, c', a1, a2, a3, updC_at, hl, fun hle => by omega⟩
    · exact ⟨r, d, a1, a2, a3, by rw [updC_ne e]; exact a4, a5, a6⟩
  · refine Sp.kr_keep h.wo fun r o hr hc' => ?_
    rw [updC_ne (fun e => (h.wn _ (.inl rfl) r hr).2.2 t (List.mem_of_getElem? ht) (by rw [e]; exact hat))]; exact hc'
  · refine Sp.kr_keep (h.wi w hw) fun r o hr hc' => ?_
    rw [updC_ne (fun e => (h.wn _ (.inr ⟨w, hw, rfl⟩) r hr).2.2 t (List.mem_of_getElem? ht) (by rw [e]; exact hat))]; exact hc'

theorem take_flat {l : List (List E)} {i : Nat} {s : List E} (h : l[i]? = some s) : (l.take (i + 1)).flatten = (l.take i).flatten ++ s := by
  rw [List.take_add_one, h]; simp

theorem split_law_loop {x0 x4 x6 : AV} {l : List E} {ts ws : List (AV × List E)} {js N : Nat} {c5 : Option Nat} (hx0 : Sl B H 4 x0 (l.map E.row)) (hx4 : Sl B H 4 x4 (l.map E.row)) (hl : l.length ≤ 1000) (hev : Even l (ts.map (·.2))) (hws : ws.map (·.2) = ts.map (·.2)) (hq : ∀ G, Q (.bool true) G) (hjs : H.length ≤ js) (hqs : ∀ t, t ∈ ts → ∀ q, at? t.1 = some q → H.length ≤ q) (hNN : H.length ≤ N) :
    ∀ (f i : Nat) (x7 : AV) (G : Heap) (C : Nat → Option AObj), i + f = ts.length → KW H G C → Sp C N js ts ws x6 i → N ≤ G.length → GrC H C 4 x7 (((ts.map (·.2)).take i).flatten.map E.row) → (∀ j, at? x7 = some j → N ≤ j) →
      L6_6 B (Cl B) n x0 (.bool true) x4 (.slice (.new js) 0 ts.length 1 c5) x6 x7 (i : Int) G Q := by
  have hbig : maxBytes = 140737488355328 := rfl
  have hlen : ts.length = (l.length + 63) / 64 := by have := hev.len; rwa [List.length_map] at this
  -- the outer slice, and the lengths
  have outer : ∀ {G : Heap} {C : Nat → Option AObj} {i : Nat}, KW H G C → Sp C N js ts ws x6 i → Kr C 1 (.slice (.new js) 0 ts.length 1 c5) (ts.map lrow) := fun {G C i} h hs => ⟨lrow_len ts, js, c5, by rw [List.length_map], by rw [lrow_flat]; exact hs.outer⟩
  have llen : ∀ {G : Heap} {C : Nat → Option AObj} {i p : Nat} {t : AV × List E}, KW H G C → Sp C N js ts ws x6 i → ts[p]? = some t → (∀ K : AV → Prop, K t.1 → pLive t.1 K) ∧ lenOf t.1 = some t.2.length := fun {G C i p t} h hs ht => by
    obtain ⟨q, c, a1, _⟩ := hs.inner p t ht
    rw [a1]
    exact ⟨fun K hK => wV_live _ _ _ _ hK, by rw [wV_len, List.length_map]⟩
  intro f
  induction f with
  | zero =>
    intro i x7 G C hi h hs hN hg hat
    have hos := (outer h hs).sl (B := B) h
    refine L6_6_in (ACall.cle B table) ?_
    rw [hos.len, ob_some, List.length_map]
    refine bs_no (decide_eq_false (by omega)) (J6_9_in ?_)
    obtain ⟨L, hL⟩ := h.pre
    have e : ((ts.map (·.2)).take i).flatten = l := by rw [List.take_of_length_le (by rw [List.length_map]; omega), hev.flat]
    rw [e] at hg
    have h7 : Sl B G 4 x7 (l.map E.row) := by
      obtain ⟨h0, h1 | ⟨j, rfl, h2, h3⟩⟩ := hg
      · exact ⟨h0, .inl h1⟩
      · exact ⟨h0, .inr ⟨_, _, _, rfl, cellsAt_iff'.2 ⟨(l.map E.row).flatten, by simp only [cellsOf, h.cs j _ h3], by rw [flatten_len h0]; omega, by rw [List.drop_zero, ← flatten_len h0, List.take_length]⟩⟩⟩
    have h0G : Sl B G 4 x0 (l.map E.row) := by rw [hL]; exact hx0.pre
    have h4G : Sl B G 4 x4 (l.map E.row) := by rw [hL]; exact hx4.pre
    refine f12_ok h7 h0G (by omega) (tyK_bool (J6_8_in ?_))
    rw [decide_eq_true rfl]
    refine f12_ok h4G h0G (by omega) (tyK_bool (J6_7_in ?_))
    rw [decide_eq_true rfl, pGuard_bool, bs_true, pGuard_bool, bs_true, pGuard_bool, bs_true]
    rw [hos.len, ob_some, h0G.len, ob_some, List.length_map, List.length_map, if_neg (by decide)]
    have ew : IntKind.i64.wrap (Int.tdiv (IntKind.i64.wrap (IntKind.i64.wrap ((l.length : Int) + 64) - 1)) 64) = (((l.length + 63) / 64 : Nat) : Int) := by
      rw [w64 (n := (l.length : Int) + 64) (by omega), w64 (n := (l.length : Int) + 64 - 1) (by omega)]
      have : (l.length : Int) + 64 - 1 = ((l.length + 63 : Nat) : Int) := by omega
      rw [this, show Int.tdiv ((l.length + 63 : Nat) : Int) 64 = (((l.length + 63) / 64 : Nat) : Int) from rfl, w64 (by omega)]
    rw [ew]
    exact ib_eq_yes (by rw [hlen]) (tidy_none (hq _))
  | succ f ih =>
    intro i x7 G C hi h hs hN hg hat
    have hos := (outer h hs).sl (B := B) h
    have hit : i < ts.length := by omega
    have g1 : ts[i]? = some ts[i] := List.getElem?_eq_getElem hit
    have hrow : ∀ (p : Nat) (hp : p < ts.length), (ts.map lrow)[p]? = some [ts[p].1] := fun p hp => by rw [List.getElem?_map, List.getElem?_eq_getElem hp]; rfl
    have ix : ∀ {K : AV → Heap → Prop} {p : Nat} {a : Int}, a = (p : Int) → p < ts.length → K (ept 1 (.slice (.new js) 0 ts.length 1 c5) p) G → aop B E0 G K (.indexPtr 1 (.const (.slice (.new js) 0 ts.length 1 c5)) (.const (.int .i64 a))) := fun {K p a} ha hp hk => op_idx' hos ha (by rw [List.length_map]; exact hp) hk
    have pk : ∀ (p : Nat) (hp : p < ts.length), peek B G (ept 1 (.slice (.new js) 0 ts.length 1 c5) p) = some ts[p].1 := fun p hp => (hos.el (hrow p hp)).peek0 rfl
    refine L6_6_in (ACall.cle B table) ?_
    rw [hos.len, ob_some, List.length_map]
    refine bs_yes (decide_eq_true (by omega)) (J6_5_in (ix rfl hit ?_))
    obtain ⟨q, c, q1, q2, q3, q4, q5, q6⟩ := hs.inner i _ g1
    have hc : c = (ts[i].2.map E.row).flatten := q6 (Nat.le_refl _)
    have hkr : Kr C 4 ts[i].1 (ts[i].2.map E.row) := by rw [q1]; exact Kr.wV (E.rows_len _) (by rw [q4, hc])
    have hsi := hkr.sl (B := B) h
    rw [pk i hit, ob_some]
    -- the document's list
    have hwlen : ws.length = ts.length := by have := congrArg List.length hws; rwa [List.length_map, List.length_map] at this
    have w1 : ws[i]? = some ws[i] := List.getElem?_eq_getElem (by omega)
    have hw2 : ws[i].2 = ts[i].2 := by
      have := congrArg (fun l => l[i]?) hws
      simp only [List.getElem?_map, w1, g1, Option.map_some] at this
      exact Option.some.inj this
    have hwos := hs.wo.sl (B := B) h
    have hwr : (ws.map lrow)[i]? = some [ws[i].1] := by rw [List.getElem?_map, w1]; rfl
    have hwsl := (hs.wi _ (List.getElem_mem (by omega : i < ws.length))).sl (B := B) h
    refine Sl.live hsi _ (op_idx hwos (by rw [List.length_map]; omega) ?_)
    rw [(hwos.el hwr).peek0 (v := ws[i].1) rfl, ob_some]
    rw [hw2] at hwsl
    -- how long they are
    have each : ∀ (p : Nat) (hp : p < ts.length), ts[p].2.length = cutR l.length ((l.length + 63) / 64) p := fun p hp => hev.each p _ (by rw [List.getElem?_map, List.getElem?_eq_getElem hp]; rfl)
    obtain ⟨f1, f2, f3, f4, f5⟩ := cutR_facts (len := l.length) (i := i) (by omega)
    have ei := each i hit
    have e0 := each 0 (by omega)
    refine Sl.live hwsl _ (f12_ok hsi hwsl (by omega) (tyK_bool (J6_3_in ?_)))
    rw [decide_eq_true rfl]
    refine op_notB ?_
    rw [show (!true) = false from rfl, pGuard_bool, bs_false]
    have lof : ∀ (p : Nat) (hp : p < ts.length), (∀ K : AV → Prop, K ts[p].1 → pLive ts[p].1 K) ∧ lenOf ts[p].1 = some ts[p].2.length := fun p hp => llen h hs (List.getElem?_eq_getElem hp)
    refine ix rfl hit ?_
    rw [pk i hit, ob_some]
    refine (lof i hit).1 _ ?_
    rw [(lof i hit).2, ob_some]
    refine ib_gt_no (by omega) ?_
    rw [pGuard_bool, bs_false]
    refine ix rfl hit ?_
    rw [pk i hit, ob_some]
    refine (lof i hit).1 _ ?_
    rw [(lof i hit).2, ob_some]
    refine ix (p := 0) rfl (by omega) ?_
    rw [pk 0 (by omega), ob_some]
    refine (lof 0 (by omega)).1 _ ?_
    rw [(lof 0 (by omega)).2, ob_some]
    refine ib_gt_no (by omega) ?_
    rw [pGuard_bool, bs_false]
    refine ix rfl hit ?_
    rw [pk i hit, ob_some]
    refine (lof i hit).1 _ ?_
    rw [(lof i hit).2, ob_some]
    refine ix (p := 0) rfl (by omega) ?_
    rw [pk 0 (by omega), ob_some]
    refine (lof 0 (by omega)).1 _ ?_
    rw [(lof 0 (by omega)).2, ob_some, w64 (by omega)]
    refine ib_lt_no (by omega) ?_
    rw [pGuard_bool, bs_false]
    -- what is done with a list that is right
    have go : J6_0 B (Cl B) n x0 (.bool true) x4 (.slice (.new js) 0 ts.length 1 c5) x6 x7 (i : Int) (.bool false) G Q := by
      refine J6_0_in ?_
      rw [pBool_bool, if_neg (by decide)]
      refine ix rfl hit ?_
      rw [pk i hit, ob_some]
      refine Sl.live hsi _ ?_
      have hfl : ((ts.map (·.2)).take i).flatten.length ≤ l.length := by
        have : ((ts.map (·.2)).take i).flatten.length + ((ts.map (·.2)).drop i).flatten.length = l.length := by
          rw [← List.length_append, ← List.flatten_append, List.take_append_drop, hev.flat]
        omega
      have hbb : ((((ts.map (·.2)).take i).flatten.map E.row).length + (ts[i].2.map E.row).length) * 48 ≤ maxBytes := by
        rw [List.length_map (f := E.row), List.length_map (f := E.row)]; omega
      refine op_appKW h hg hsi (by intro e; have := congrArg List.length e; rw [List.length_map, List.length_nil] at this; omega) hbb fun v' G' C' k1 k2 k3 k4 k5 => ?_
      have hrows : ((ts.map (·.2)).take i).flatten.map E.row ++ ts[i].2.map E.row = ((ts.map (·.2)).take (i + 1)).flatten.map E.row := by
        rw [take_flat (i := i) (s := ts[i].2) (by rw [List.getElem?_map, g1]; rfl), List.map_append]
      rw [hrows] at k2
      have hs' : Sp C' N js ts ws x6 (i + 1) := by
        have h1 := hs.keep (C' := C') fun p o hp hc => k4 p o hc fun e => by have := hat p e; omega
        exact ⟨h1.outer, h1.low, fun p t ht => by
          obtain ⟨q, c, a1, a2, a3, a4, a5, a6⟩ := h1.inner p t ht
          exact ⟨q, c, a1, a2, a3, a4, a5, fun hle => a6 (by omega)⟩, h1.nd, h1.wo, h1.wi, h1.wn⟩
      have hat' : ∀ j, at? v' = some j → N ≤ j := fun j hj => by have := k3 j hj; omega
      -- it is written over
      have over : ∀ (f k : Nat) (G : Heap) (C : Nat → Option AObj), k + f = ts[i].2.length → KW H G C → Sp C N js ts ws x6 (i + 1) → N ≤ G.length → GrC H C 4 v' (((ts.map (·.2)).take (i + 1)).flatten.map E.row) →
          L6_2 B (Cl B) n x0 (.bool true) x4 (.slice (.new js) 0 ts.length 1 c5) x6 v' (i : Int) (k : Int) G Q := by
        intro f
        induction f with
        | zero =>
          intro k G C hk h hs hN hg
          have hos := (outer h hs).sl (B := B) h
          refine L6_2_in (ACall.cle B table) (op_idx hos (by rw [List.length_map]; exact hit) ?_)
          rw [(hos.el (hrow i hit)).peek0 (v := ts[i].1) rfl, ob_some]
          obtain ⟨z1, z2⟩ := llen h hs g1
          refine z1 _ ?_
          rw [z2, ob_some]
          refine bs_no (decide_eq_false (by omega)) (J6_4_in ?_)
          rw [w64 (by omega)]
          exact ih (i + 1) v' G C (by omega) h hs hN hg hat'
        | succ f ihf =>
          intro k G C hk h hs hN hg
          have hos := (outer h hs).sl (B := B) h
          refine L6_2_in (ACall.cle B table) (op_idx hos (by rw [List.length_map]; exact hit) ?_)
          rw [(hos.el (hrow i hit)).peek0 (v := ts[i].1) rfl, ob_some]
          obtain ⟨z1, z2⟩ := llen h hs g1
          refine z1 _ ?_
          rw [z2, ob_some]
          refine bs_yes (decide_eq_true (by omega)) (J6_1_in (op_idx hos (by rw [List.length_map]; exact hit) ?_))
          rw [(hos.el (hrow i hit)).peek0 (v := ts[i].1) rfl, ob_some]
          refine z1 _ ?_
          rw [show layParts [(.str []), (.str []), (.bool false), (.int .i64 0)] [(0, 1, (.str [63]))] = some [.str [63], .str [], .bool false, .int .i64 0] from rfl, ob_some]
          obtain ⟨q, c, q1, q2, q3, q4, q5, _⟩ := hs.inner i _ g1
          obtain ⟨cc, ecc⟩ := wV_slice (q := q) (es := 4) (rows := ts[i].2.map E.row)
          have eix : ∀ {K : AV → Heap → Prop}, K (.ptr (some (.new q, k * 4))) G → aop B E0 G K (.indexPtr 4 (.const ts[i].1) (.const (.int .i64 (k : Int)))) := fun {K} hk' => by
            rw [q1, ecc]
            simp only [aop, opK, Opd.look, ob_some, pAny_int]
            rw [if_pos ⟨trivial, by omega, by rw [List.length_map]; omega⟩]
            simpa using hk'
          have hqH : H.length ≤ q := hqs _ (List.mem_of_getElem? g1) q (by rw [q1, at_wV])
          refine eix (op_st_arr (n := 4) (vs := [.str [63], .str [], .bool false, .int .i64 0]) rfl rfl (h.cs q _ q4) (by omega) ?_)
          rw [w64 (by omega)]
          have hlp : (putAt c (k * 4) [.str [63], .str [], .bool false, .int .i64 0]).length = ts[i].2.length * 4 := by
            simp only [putAt, List.length_append, List.length_take, List.length_drop, List.length_cons, List.length_nil]
            omega
          refine ihf (k + 1) _ _ (by omega) (h.set q4 hqH _) (hs.write g1 q1 q4 hlp q3) (by rw [List.length_set]; exact hN) (hg.keep fun j hj hcj => ?_)
          have := hat' j hj
          rw [updC_ne (by omega)]; exact hcj
      exact over _ 0 G' C' (Nat.zero_add _) k1 hs' (by omega) k2
    refine ib_gt ?_
    rw [pGuard_bool]
    refine bs_dec (fun h0 => ?_) fun _ => go
    refine ix rfl hit ?_
    rw [pk i hit, ob_some]
    refine (lof i hit).1 _ ?_
    rw [(lof i hit).2, ob_some]
    refine ix (p := i - 1) (by rw [w64 (by omega)]; omega) (by omega) ?_
    rw [pk (i - 1) (by omega), ob_some]
    refine (lof (i - 1) (by omega)).1 _ ?_
    rw [(lof (i - 1) (by omega)).2, ob_some]
    have e1 := each (i - 1) (by omega)
    have := f5 (by omega)
    exact ib_gt_no (by omega) go

end
end Go.Am
