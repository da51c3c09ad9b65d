/- The document's Split; lists that are cut evenly, in plain Lean. -/
import Derived.Test.YtcnmdodgjbfmdaaMrA
import Derived.Test.YtcnmdodgjbfmdaaAg17
namespace Go.Am
open Go

section
variable {B : Base} {n : Nat} {H G : Heap} {Q : AV → Heap → Prop}

/-- A piece of a slice. -/
theorem cut_of {es a b : Nat} {v : AV} {rows : List (List AV)} (h : Sl B H es v rows) (hc : capOK v) (hab : a ≤ b) (hb : b ≤ rows.length) : ∃ v', sliceOf es v (a : Int) (b : Int) = some v' ∧ Sl B H es v' ((rows.drop a).take (b - a)) ∧ capOK v' := by
  obtain ⟨h0, ⟨rfl, rfl⟩ | ⟨o, off, cap, rfl, hcl⟩⟩ := h
  · have e1 : b = 0 := by simpa using hb
    subst e1
    have e2 : a = 0 := by omega
    subst e2
    exact ⟨.nils, rfl, ⟨fun r hr => by simp at hr, .inl ⟨rfl, rfl⟩⟩, fun o off len es c e => by cases e⟩
  · have hlen : ((rows.drop a).take (b - a)).length = b - a := by rw [List.length_take, List.length_drop]; omega
    have h0' : ∀ r, r ∈ (rows.drop a).take (b - a) → r.length = es := fun r hr => h0 r (List.mem_of_mem_drop (List.mem_of_mem_take hr))
    have hfl : ∀ (k : Nat) (rs : List (List AV)), (∀ r, r ∈ rs → r.length = es) → k ≤ rs.length → (rs.drop k).flatten = rs.flatten.drop (k * es) ∧ (rs.take k).flatten = rs.flatten.take (k * es) := fun k rs hrs hk => by
      have h1 : rs.flatten = (rs.take k).flatten ++ (rs.drop k).flatten := by rw [← List.flatten_append, List.take_append_drop]
      have h2 : (rs.take k).flatten.length = k * es := by
        rw [flatten_len (fun r hr => hrs r (List.mem_of_mem_take hr)), List.length_take]; congr 1; omega
      constructor
      · rw [h1, ← h2, List.drop_left']; rfl
      · rw [h1, ← h2, List.take_left']; rfl
    have hfl2 : ((rows.drop a).take (b - a)).flatten = (rows.flatten.drop (a * es)).take ((b - a) * es) := by
      rw [(hfl (b - a) (rows.drop a) (fun r hr => h0 r (List.mem_of_mem_drop hr)) (by rw [List.length_drop]; omega)).2, (hfl a rows h0 (by omega)).1]
    have hm1 : (a + (b - a)) * es ≤ rows.length * es := Nat.mul_le_mul_right es (by omega)
    rw [Nat.add_mul] at hm1
    have hcut : cellsAt B H o (off + a * es) (((rows.drop a).take (b - a)).length * es) = some ((rows.drop a).take (b - a)).flatten := by
      rw [hlen, cellsAt_sub hcl (j := a * es) (m := (b - a) * es) hm1, hfl2]
    simp only [sliceOf]
    rw [if_pos ⟨trivial, by omega, by omega, by omega⟩]
    cases cap with
    | none => exact ⟨_, rfl, ⟨h0', .inr ⟨o, off + a * es, none, by rw [hlen]; simp, hcut⟩⟩, fun o off len es c e => by cases e⟩
    | some c =>
      have hz : rows.length ≤ c := hc _ _ _ _ _ rfl
      refine ⟨_, rfl, ⟨h0', .inr ⟨o, (if c = (a : Int).toNat then off else off + (a : Int).toNat * es), some (c - (a : Int).toNat), by rw [hlen]; simp, ?_⟩⟩, fun o' off' len es' c' e => by cases e; omega⟩
      by_cases hcj : c = a
      · have hnil : (rows.drop a).take (b - a) = [] := List.length_eq_zero_iff.1 (by omega)
        rw [hnil]
        obtain ⟨cs, x, y, _⟩ := cellsAt_iff'.1 hcl
        refine cellsAt_iff'.2 ⟨cs, x, ?_, by simp⟩
        rw [if_pos (by omega)]; simp; omega
      · rw [if_neg (by omega)]
        simpa using hcut
theorem op_sl3 {K : AV → Heap → Prop} {es len : Nat} {v r : AV} {a b : Int} (hl : lenOf v = some len) (hs : sliceOf es v a b = some r) (hk : K r G) : aop B E0 G K (.sliceL es (.const v) (some (.const (.int .i64 a))) (some (.const (.int .i64 b))) none) := by
  simp only [aop, opK, Opd.look, ob_some, hl, optK, pAny_int, hs]; exact hk

/-! ### In plain Lean -/
def cutR (len many i : Nat) : Nat := len / many + if i < len % many then 1 else 0
def refGo (many : Nat) (l : List E) : Nat → Nat → Nat → List (List E)
  | 0, _, _ => []
  | m + 1, i, at' => (l.drop at').take (cutR l.length many i) :: refGo many l m (i + 1) (at' + cutR l.length many i)
theorem cut_eq {len many i m at' : Nat} (hm : i + (m + 1) = many) (ha : at' = i * (len / many) + min i (len % many)) : cutN (len - at') (m + 1) = cutR len many i ∧ at' + cutR len many i = (i + 1) * (len / many) + min (i + 1) (len % many) ∧ at' + cutR len many i ≤ len := by
  have h1 := Nat.div_add_mod len many
  have h2 := Nat.mod_lt len (show 0 < many by omega)
  unfold cutN cutR
  generalize len / many = d at *
  generalize len % many = r at *
  have e1 : many * d = i * d + (m + 1) * d := by rw [← hm, Nat.add_mul]
  have e2 : (i + 1) * d = i * d + d := by rw [Nat.add_mul, Nat.one_mul]
  have e3 : (m + 1) * d = m * d + d := by rw [Nat.add_mul, Nat.one_mul]
  have hrest : len - at' = (m + 1) * d + (r - min i r) := by omega
  have hlt : r - min i r < m + 1 := by omega
  have hdiv : (len - at') / (m + 1) = d := by
    rw [hrest, Nat.mul_add_div (by omega), Nat.div_eq_of_lt hlt]; omega
  have hmod : (len - at') % (m + 1) = r - min i r := by
    rw [hrest, Nat.mul_add_mod, Nat.mod_eq_of_lt hlt]
  rw [hdiv, hmod]
  generalize i * d = id at *
  generalize m * d = md at *
  refine ⟨?_, ?_, ?_⟩
  · split <;> split <;> omega
  · split <;> omega
  · split <;> omega
theorem split_eq {many : Nat} {l : List E} : ∀ (m i at' : Nat), i + m = many → at' = i * (l.length / many) + min i (l.length % many) → splitF m (l.drop at') = refGo many l m i at'
  | 0, _, _, _, _ => rfl
  | m + 1, i, at', hm, ha => by
    obtain ⟨h1, h2, h3⟩ := cut_eq hm ha
    have hl : (l.drop at').length = l.length - at' := List.length_drop
    rw [splitF, refGo, hl, h1, List.drop_drop, split_eq m (i + 1) (at' + cutR l.length many i) (by omega) h2]
theorem split_ref (l : List E) : splitF (manyOf l) l = refGo (manyOf l) l (manyOf l) 0 0 := by
  have := split_eq (many := manyOf l) (l := l) (manyOf l) 0 0 (Nat.zero_add _) (by simp)
  rw [List.drop_zero] at this
  exact this

/-! ### The document's Split -/
theorem OL.app {K : AV → Heap → Prop} {j q : Nat} {ts : List (AV × List E)} {l : List E} (h : OL H G j ts) (hq : H.length ≤ q) (hg : G[q]? = some (.arr (l.map E.row).flatten)) (hqj : q ≠ j) (hb : (ts.length + 1) * 24 ≤ maxBytes)
    (hk : ∀ j' G', OL H G' j' (ts ++ [(wV q 4 (l.map E.row), l)]) → K (wV j' 1 ((ts ++ [(wV q 4 (l.map E.row), l)]).map lrow)) G') :
    aop B E0 (G ++ [.arr [wV q 4 (l.map E.row)]]) K (.append 1 24 (.const (wV j 1 (ts.map lrow))) (.const (.slice (.new G.length) 0 1 1 (some 1)))) := by
  obtain ⟨L0, hL0⟩ := h.pre
  have hjl := lt_of_get h.gj
  have hql := lt_of_get hg
  have hG2 : (G ++ [AObj.arr [wV q 4 (l.map E.row)]])[j]? = some (.arr (ts.map lrow).flatten) := by rw [lrow_flat]; exact get_pre h.gj
  have hHG : H.length ≤ G.length := by rw [hL0, List.length_append]; omega
  refine op_appendE (rows2 := [[wV q 4 (l.map E.row)]]) hG2 (lrow_len ts) (sl_row1 rfl) (by simp) (by rw [List.length_map]; simpa using hb) fun o2 => ?_
  have hrows : ts.map lrow ++ [[wV q 4 (l.map E.row)]] = (ts ++ [(wV q 4 (l.map E.row), l)]).map lrow := by rw [List.map_append]; rfl
  rw [hrows]
  have hlen : (G ++ [AObj.arr [wV q 4 (l.map E.row)]]).length = G.length + 1 := by rw [List.length_append]; rfl
  refine hk _ _ ⟨?_, by rw [hlen]; omega, ?_, fun t ht => ?_⟩
  · rw [hL0, List.append_assoc, List.set_append_right _ _ h.hj, List.append_assoc]; exact ⟨_, rfl⟩
  · have e : (G ++ [AObj.arr [wV q 4 (l.map E.row)]]).length = ((G ++ [AObj.arr [wV q 4 (l.map E.row)]]).set j o2).length := (List.length_set ..).symm
    rw [e, get_app0, ← lrow_flat]; rfl
  · have low : ∀ p ob, p ≠ j → G[p]? = some ob → ((G ++ [AObj.arr [wV q 4 (l.map E.row)]]).set j o2 ++ [AObj.arr ((ts ++ [(wV q 4 (l.map E.row), l)]).map lrow).flatten])[p]? = some ob := fun p ob hp hob => by
      refine get_pre ?_
      rw [get_set_ne (Ne.symm hp)]; exact get_pre hob
    rcases List.mem_append.1 ht with ht | ht
    · obtain ⟨p, a, b, c, d⟩ := h.el t ht
      have := lt_of_get d
      exact ⟨p, a, b, by rw [hlen]; omega, low p _ c d⟩
    · rw [List.mem_singleton] at ht; subst ht
      exact ⟨q, rfl, hq, by rw [hlen]; omega, low q _ hqj hg⟩

theorem ref_split_loop {x : AV} {l : List E} {many : Nat} (hx : Sl B H 4 x (l.map E.row)) (hc : capOK x) (hl : l.length ≤ 100000) (hm : many ≤ 100000) {res : List (List E)} (hq : ∀ j G ts, OL H G j ts → ts.map (·.2) = res → Q (wV j 1 (ts.map lrow)) G) :
    ∀ (m i at' j : Nat) (G : Heap) (ts : List (AV × List E)), i + m = many → at' = i * (l.length / many) + min i (l.length % many) → at' ≤ l.length → OL H G j ts → ts.length = i → ts.map (·.2) ++ refGo many l m i at' = res →
      L17_6 B (Cl B) n x (wV j 1 (ts.map lrow)) (many : Int) (at' : Int) (i : Int) G Q := by
  intro m
  induction m with
  | zero =>
    intro i at' j G ts hi ha hal h hts hr
    refine L17_6_in (ACall.cle B table) (bs_no (decide_eq_false (by omega)) (J17_7_in (tidy_none (hq j G ts h ?_))))
    rw [← hr, refGo, List.append_nil]
  | succ m ih =>
    intro i at' j G ts hi ha hal h hts hr
    obtain ⟨c1, c2, c3⟩ := cut_eq (len := l.length) hi ha
    have hbig : maxBytes = 140737488355328 := rfl
    have hlen : lenOf x = some l.length := by have := hx.len; rwa [List.length_map] at this
    obtain ⟨L0, hL0⟩ := h.pre
    have hHG : H.length ≤ G.length := by rw [hL0, List.length_append]; omega
    refine L17_6_in (ACall.cle B table) (bs_yes (decide_eq_true (by omega)) (J17_5_in ?_))
    rw [hlen, ob_some, if_neg (by omega)]
    have hd1 : l.length / many ≤ l.length := Nat.div_le_self ..
    have hd0 : (0 : Int) ≤ ((l.length / many : Nat) : Int) := Int.natCast_nonneg _
    have hd2 : ((l.length / many : Nat) : Int) ≤ (l.length : Int) := Int.ofNat_le.2 hd1
    have ed : IntKind.i64.wrap (Int.tdiv (l.length : Int) (many : Int)) = ((l.length / many : Nat) : Int) := by
      rw [show Int.tdiv (l.length : Int) (many : Int) = ((l.length / many : Nat) : Int) from rfl, w64 (by omega)]
    rw [ed]
    refine J17_3_in ?_
    rw [hlen, ob_some, if_neg (by omega)]
    have em : Int.tmod (l.length : Int) (many : Int) = ((l.length % many : Nat) : Int) := rfl
    rw [em]
    have go : ∀ a : Int, a = (cutR l.length many i : Int) → J17_2 B (Cl B) n x (wV j 1 (ts.map lrow)) (many : Int) (at' : Int) (i : Int) a G Q := fun a ha' => by
      subst ha'
      refine J17_2_in ?_
      rw [show layParts [] [] = some [] from rfl, ob_some]
      refine slK_in ?_
      have hxG : Sl B G 4 x (l.map E.row) := by rw [hL0]; exact hx.pre
      rw [w64 (by omega)]
      obtain ⟨v10, s1, s2, _⟩ := cut_of hxG hc (a := at') (b := at' + cutR l.length many i) (by omega) (by rw [List.length_map]; exact c3)
      rw [Nat.add_sub_cancel_left, ← List.map_drop, ← List.map_take] at s2
      have ec : ((at' + cutR l.length many i : Nat) : Int) = (at' : Int) + (cutR l.length many i : Int) := by omega
      rw [ec] at s1
      refine op_sl3 hlen s1 ?_
      have g0 : (G ++ [AObj.arr []])[G.length]? = some (.arr ([] : List (List AV)).flatten) := by rw [get_app0]; rfl
      refine op_appendN (rows1 := []) (rows2 := ((l.drop at').take (cutR l.length many i)).map E.row) g0 (fun r hr => by cases hr) s2.pre ?_ fun q o L hq' hg => ?_
      · rw [List.length_nil, List.length_map, List.length_take]; omega
      rw [List.nil_append] at hg ⊢
      have e : (G ++ [AObj.arr []]).set G.length o ++ L = G ++ (o :: L) := by rw [set_app0, List.append_assoc]; rfl
      rw [e] at hg ⊢
      rw [show layParts [.nils] [(0, 1, wV q 4 (((l.drop at').take (cutR l.length many i)).map E.row))] = some [wV q 4 (((l.drop at').take (cutR l.length many i)).map E.row)] from lay_one (sl_cells (wV_sl (B := B) hg (E.rows_len _))) rfl, ob_some]
      refine slK_in ?_
      have hjl := lt_of_get h.gj
      refine (h.grow (o :: L)).app (by omega) hg (by omega) (by omega) fun j' G' h' => J17_1_in (J17_4_in ?_)
      rw [w64 (by omega), w64 (n := (i : Int) + 1) (by omega), ← ec]
      refine ih (i + 1) (at' + cutR l.length many i) j' G' _ (by omega) c2 c3 h' (by rw [List.length_append, hts]; rfl) ?_
      rw [← hr, refGo, List.map_append]; simp
    have hcn : (cutR l.length many i : Int) = (l.length / many : Nat) + (if i < l.length % many then (1 : Nat) else 0 : Nat) := by unfold cutR; omega
    refine bs_dec (fun hp => by
      rw [w64 (by omega)]
      exact go _ (by rw [hcn, if_pos (by omega)]; rfl)) fun hp => go _ (by rw [hcn, if_neg (by omega)]; simp)

theorem f17_ok {x : AV} {l : List E} (hx : Sl B H 4 x (l.map E.row)) (hc : capOK x) (hl : l.length ≤ 100000) (hq : ∀ j L ts, OL H (H ++ L) j ts → ts.map (·.2) = splitF (manyOf l) l → Q (wV j 1 (ts.map lrow)) (H ++ L)) : Cl B 17 [x] H Q := by
  refine f17_in fun n cl hn hcl hH hA => ?_
  subst hcl
  rw [show layParts [] [] = some [] from rfl, ob_some]
  refine slK_in ?_
  have hlen : lenOf x = some l.length := by have := hx.len; rwa [List.length_map] at this
  have hmany : manyOf l ≤ 100000 := by unfold manyOf; omega
  have h0 : OL H (H ++ [.arr []]) H.length [] := ⟨⟨_, rfl⟩, Nat.le_refl _, by rw [get_app0]; rfl, fun t ht => by cases ht⟩
  have go : ∀ (f k : Nat), k + f = manyOf l → L17_0 B (Cl B) n x (wV H.length 1 (([] : List (AV × List E)).map lrow)) (k : Int) (H ++ [.arr []]) Q := by
    intro f
    induction f with
    | zero =>
      intro k hk
      refine L17_0_in (ACall.cle B table) ?_
      rw [hlen, ob_some, w64 (by omega)]
      have : k = (l.length + 63) / 64 := hk
      refine bs_no (decide_eq_false (by omega)) (J17_8_in ?_)
      have ek : k = manyOf l := hk
      subst ek
      exact ref_split_loop hx hc hl hmany (res := splitF (manyOf l) l) (fun j G ts h he => by obtain ⟨L, rfl⟩ := h.pre; exact hq j L ts h he) (manyOf l) 0 0 H.length _ [] (Nat.zero_add _) (by simp) (Nat.zero_le _) h0 rfl (by rw [split_ref]; rfl)
    | succ f ih =>
      intro k hk
      have : k + (f + 1) = (l.length + 63) / 64 := hk
      refine L17_0_in (ACall.cle B table) ?_
      rw [hlen, ob_some, w64 (by omega)]
      refine bs_yes (decide_eq_true (by omega)) ?_
      rw [w64 (by omega)]
      exact ih (k + 1) (by omega)
  exact go (manyOf l) 0 (Nat.zero_add _)

end
end Go.Am

/- Lists that are cut evenly: how long they are, and that they are all of it. -/
namespace Go.Am
open Go

theorem refGo_len (many : Nat) (l : List E) : ∀ (m i at' : Nat), (refGo many l m i at').length = m
  | 0, _, _ => rfl
  | m + 1, i, at' => by rw [refGo, List.length_cons, refGo_len many l m]
theorem refGo_each {many : Nat} {l : List E} : ∀ (m i at' : Nat), i + m = many → at' = i * (l.length / many) + min i (l.length % many) → ∀ (p : Nat) s, (refGo many l m i at')[p]? = some s → s.length = cutR l.length many (i + p)
  | 0, _, _, _, _, p, s, h => by simp [refGo] at h
  | m + 1, i, at', hm, ha, p, s, h => by
    obtain ⟨_, h2, h3⟩ := cut_eq hm ha
    rw [refGo] at h
    cases p with
    | zero =>
      simp at h; subst h
      rw [List.length_take, List.length_drop, Nat.add_zero]; omega
    | succ p =>
      rw [List.getElem?_cons_succ] at h
      have := refGo_each m (i + 1) _ (by omega) h2 p s h
      rw [this]; congr 1; omega
theorem refGo_flat {many : Nat} {l : List E} (h0 : 0 < many) : ∀ (m i at' : Nat), i + m = many → at' = i * (l.length / many) + min i (l.length % many) → (refGo many l m i at').flatten = l.drop at'
  | 0, i, at', hm, ha => by
    have h1 := Nat.div_add_mod l.length many
    have h2 := Nat.mod_lt l.length h0
    have : i = many := by omega
    subst this
    rw [refGo, List.drop_eq_nil_of_le (by omega)]; rfl
  | m + 1, i, at', hm, ha => by
    obtain ⟨_, h2, h3⟩ := cut_eq hm ha
    rw [refGo, List.flatten_cons, refGo_flat h0 m (i + 1) _ (by omega) h2, ← List.drop_drop, List.take_append_drop]

theorem cutR_facts {len i : Nat} (hi : i < (len + 63) / 64) : 1 ≤ cutR len ((len + 63) / 64) i ∧ cutR len ((len + 63) / 64) i ≤ 64 ∧ cutR len ((len + 63) / 64) i ≤ cutR len ((len + 63) / 64) 0 ∧ cutR len ((len + 63) / 64) 0 ≤ cutR len ((len + 63) / 64) i + 1 ∧ (0 < i → cutR len ((len + 63) / 64) i ≤ cutR len ((len + 63) / 64) (i - 1)) := by
  have hm : 0 < (len + 63) / 64 := by omega
  have hle : len ≤ 64 * ((len + 63) / 64) := by omega
  have hge : (len + 63) / 64 ≤ len := by omega
  have h1 := Nat.div_add_mod len ((len + 63) / 64)
  have h2 := Nat.mod_lt len hm
  have h3 := Nat.div_pos hge hm
  generalize hmany : (len + 63) / 64 = many at *
  unfold cutR
  generalize hd : len / many = d at *
  generalize len % many = r at *
  have h4 : d ≤ 64 ∧ (d = 64 → r = 0) := by
    rcases Nat.lt_or_ge d 64 with h | h
    · exact ⟨by omega, fun e => by omega⟩
    · have h5 : many * 64 ≤ many * d := Nat.mul_le_mul_left _ h
      have h6 : r = 0 := by omega
      refine ⟨?_, fun _ => h6⟩
      rcases Nat.lt_or_ge 64 d with h7 | h7
      · have : many * 65 ≤ many * d := Nat.mul_le_mul_left _ h7
        omega
      · exact h7
  refine ⟨by omega, ?_, ?_, ?_, fun h0 => ?_⟩
  · split <;> omega
  · split <;> split <;> omega
  · split <;> split <;> omega
  · split <;> split <;> omega

structure Even (l : List E) (S : List (List E)) : Prop where
  len : S.length = (l.length + 63) / 64
  flat : S.flatten = l
  each : ∀ (p : Nat) s, S[p]? = some s → s.length = cutR l.length ((l.length + 63) / 64) p
theorem split_even (l : List E) : Even l (splitF (manyOf l) l) := by
  rw [split_ref]
  refine ⟨refGo_len _ _ _ _ _, ?_, fun p s h => ?_⟩
  · rcases Nat.eq_zero_or_pos (manyOf l) with h | h
    · have : l = [] := List.length_eq_zero_iff.1 (by unfold manyOf at h; omega)
      subst this; rfl
    · have := refGo_flat (l := l) h (manyOf l) 0 0 (Nat.zero_add _) (by simp)
      rw [List.drop_zero] at this; exact this
  · have := refGo_each (many := manyOf l) (manyOf l) 0 0 (Nat.zero_add _) (by simp) p s h
    rw [Nat.zero_add] at this; exact this
end Go.Am
