/- The law MergeNewest: it holds. -/
import Derived.Test.YtcnmdodgjbfmdaaMt5A
import Derived.Test.YtcnmdodgjbfmdaaAg4
namespace Go.Am
open Go

/-! ### In plain Lean: as many are counted as come out -/
def keeps (bot : Bool) (prev : List (List E)) (e : E) : Bool := !(prev.any fun p => findB e.key p) && !(bot && e.del)
def keptF (bot : Bool) : List (List E) → List (List E) → List E
  | _, [] => []
  | prev, l :: r => l.filter (keeps bot prev) ++ keptF bot (prev ++ [l]) r
theorem keeps_iff {bot : Bool} {prev : List (List E)} {e : E} : keeps bot prev e = true ↔ (∀ p, p ∈ prev → findB e.key p = false) ∧ (bot && e.del) = false := by
  unfold keeps
  rw [Bool.and_eq_true, Bool.not_eq_true', Bool.not_eq_true', List.any_eq_false]
  constructor
  · rintro ⟨h1, h2⟩; exact ⟨fun p hp => by simpa using h1 p hp, h2⟩
  · rintro ⟨h1, h2⟩; exact ⟨fun p hp => by simpa using h1 p hp, h2⟩
theorem getE_findB {key : List UInt8} {l : List E} : getE key l = none ↔ findB key l = false := by
  rw [getE_none, ← Bool.not_eq_true, findB_iff]
  exact ⟨fun h ⟨e, h1, h2⟩ => h e h1 h2, fun h e h1 h2 => h ⟨e, h1, h2⟩⟩
theorem look_none {key : List UInt8} : ∀ {ls : List (List E)}, (∀ p, p ∈ ls → findB key p = false) → look key ls = none
  | [], _ => rfl
  | l :: r, h => by
    rw [look_cons, getE_findB.2 (h l (List.mem_cons_self ..)), look_none (ls := r) fun p hp => h p (List.mem_cons_of_mem _ hp)]; rfl
theorem kept_mem {bot : Bool} {e : E} : ∀ (ls prev : List (List E)), (∀ l, l ∈ ls → Rise l) → (e ∈ keptF bot prev ls ↔ look e.key ls = some e ∧ (∀ p, p ∈ prev → findB e.key p = false) ∧ (bot && e.del) = false)
  | [], prev, _ => ⟨fun h => (List.not_mem_nil h).elim, fun ⟨h, _⟩ => by cases h⟩
  | l :: r, prev, h => by
    have hl := h l (List.mem_cons_self ..)
    rw [keptF, List.mem_append, List.mem_filter, keeps_iff, kept_mem r (prev ++ [l]) fun x hx => h x (List.mem_cons_of_mem _ hx), look_cons]
    constructor
    · rintro (⟨h1, h2, h3⟩ | ⟨h1, h2, h3⟩)
      · rw [(getE_iff hl).2 h1]; exact ⟨rfl, h2, h3⟩
      · have : getE e.key l = none := getE_findB.2 (h2 l (by simp))
        rw [this]
        exact ⟨h1, fun p hp => h2 p (List.mem_append_left _ hp), h3⟩
    · rintro ⟨h1, h2, h3⟩
      cases hg : getE e.key l with
      | some x =>
        rw [hg] at h1
        have : x = e := by simpa using h1
        subst this
        exact .inl ⟨(getE_mem hg).1, h2, h3⟩
      | none =>
        rw [hg] at h1
        refine .inr ⟨h1, fun p hp => ?_, h3⟩
        rcases List.mem_append.1 hp with hp | hp
        · exact h2 p hp
        · rw [List.mem_singleton.1 hp]; exact getE_findB.1 hg
theorem kept_nodup {bot : Bool} : ∀ (ls prev : List (List E)), (∀ l, l ∈ ls → Rise l) → (keptF bot prev ls).Pairwise fun a b => a.key ≠ b.key
  | [], _, _ => List.Pairwise.nil
  | l :: r, prev, h => by
    have hr : ∀ x, x ∈ r → Rise x := fun x hx => h x (List.mem_cons_of_mem _ hx)
    rw [keptF, List.pairwise_append]
    refine ⟨List.Pairwise.imp (fun hab => lt_ne hab) (List.Pairwise.sublist List.filter_sublist (h l (List.mem_cons_self ..))), kept_nodup r (prev ++ [l]) hr, fun a ha b hb e => ?_⟩
    have h1 := ((kept_mem r (prev ++ [l]) hr).1 hb).2.1 l (by simp)
    have h2 : findB b.key l = true := findB_iff.2 ⟨a, (List.mem_filter.1 ha).1, e⟩
    rw [h1] at h2; cases h2
theorem kept_count {bot : Bool} {ls : List (List E)} (h : ∀ l, l ∈ ls → Rise l) : (keptF bot [] ls).length = (mergeL ls bot).length := by
  have n1 : (keptF bot [] ls).Nodup := List.Pairwise.imp (fun hab e => hab (by rw [e])) (kept_nodup ls [] h)
  have n2 : (mergeL ls bot).Nodup := List.Pairwise.imp (R := fun a b : E => sLess a.key b.key = true) (S := fun a b => a ≠ b) (fun hab e => lt_ne hab (by rw [e])) (mergeL_rise h)
  have hm : ∀ e, e ∈ keptF bot [] ls ↔ e ∈ mergeL ls bot := fun e => by
    rw [kept_mem ls [] h, mergeL_mem h]
    exact ⟨fun ⟨a, _, c⟩ => ⟨a, c⟩, fun ⟨a, c⟩ => ⟨a, fun p hp => (List.not_mem_nil hp).elim, c⟩⟩
  have l1 := List.Nodup.length_le_of_subset n1 fun e he => (hm e).1 he
  have l2 := List.Nodup.length_le_of_subset n2 fun e he => (hm e).2 he
  omega
theorem kept_le {bot : Bool} {ls : List (List E)} (h : ∀ l, l ∈ ls → Rise l) {e : E} {l : List E} {a b : List (List E)} (hs : ls = a ++ l :: b) (he : e ∈ l) (hk : keeps bot a e = true) : e ∈ mergeL ls bot := by
  obtain ⟨h1, h2⟩ := keeps_iff.1 hk
  rw [mergeL_mem h, hs, look_append, look_none h1, look_cons, (getE_iff (h l (by rw [hs]; simp))).2 he]
  exact ⟨rfl, h2⟩
theorem rise_get {l : List E} (h : Rise l) {i : Nat} {a b : E} (ha : l[i]? = some a) (hb : l[i + 1]? = some b) : sLess a.key b.key = true := by
  obtain ⟨h1, rfl⟩ := List.getElem?_eq_some_iff.1 ha
  obtain ⟨h2, rfl⟩ := List.getElem?_eq_some_iff.1 hb
  exact List.pairwise_iff_getElem.1 h i (i + 1) h1 h2 (by omega)

section
variable {B : Base} {n : Nat} {H G : Heap} {Q : AV → Heap → Prop}

theorem op_aeqN {K : AV → Heap → Prop} {a b : E} (hk : K (.bool (!decide (a = b))) G) : aop B E0 G K (.aeq true 4 [(0, .str), (1, .str), (2, .bool), (3, (.int .i64))] (.const (.agg a.row)) (.const (.agg b.row))) := by
  simp only [aop, opK, Opd.look, ob_some, ent_eq]
  rw [if_pos ⟨rfl, rfl⟩]
  exact bool_split (K := fun v => K v G) hk
theorem op_extI {K : AV → Heap → Prop} {l : List AV} {i : Nat} {m : Int} (h : l[i]? = some (.int .i64 m)) (hk : K (.int .i64 m) G) : aop B E0 G K (.extract (some (.int .i64)) i (.const (.tuple l))) := by
  simp only [aop, opK, Opd.look, ob_some, h, extK, tyK]
  rw [pInt_int]; exact hk

theorem newest_loops {x6 x7 : AV} {ts : List (AV × List E)} {bot : Bool} (hx : Ls B H x6 ts) (ho : Sl B H 4 x7 ((mergeL (ts.map (·.2)) bot).map E.row)) (hr : ∀ l, l ∈ ts.map (·.2) → Rise l) (hn : ts.length ≤ 12) (h60 : ∀ t, t ∈ ts → t.2.length ≤ 60) (htot : (mergeL (ts.map (·.2)) bot).length ≤ 720) (hq : ∀ G, Q (.bool true) G) :
    ∀ (todo done : List (AV × List E)) (c : Nat) (G : Heap), ts = done ++ todo → (∃ L, G = H ++ L) → c ≤ done.length * 60 → c + (keptF bot (done.map (·.2)) (todo.map (·.2))).length = (mergeL (ts.map (·.2)) bot).length →
      L4_16 B (Cl B) n bot (.bool true) x6 x7 (c : Int) (done.length : Int) G Q := by
  intro todo
  induction todo with
  | nil =>
    intro done c G hs hp hc hk
    rw [List.append_nil] at hs
    subst hs
    refine L4_16_in (ACall.cle B table) ?_
    rw [hx.1.len, ob_some, List.length_map]
    refine bs_no (decide_eq_false (by omega)) (J4_17_in ?_)
    rw [pGuard_bool, bs_true, ho.len, ob_some, List.length_map]
    refine ib_eq_yes ?_ (tidy_none (hq _))
    simp only [List.map_nil, keptF, List.length_nil] at hk
    omega
  | cons t r ih =>
    intro done c G hs hp hc hk
    have hlen : done.length + (r.length + 1) = ts.length := by rw [hs, List.length_append]; rfl
    have h1 : ts[done.length]? = some t := by rw [hs, List.getElem?_append_right (Nat.le_refl _)]; simp
    have hrow : (ts.map fun t : AV × List E => [t.1])[done.length]? = some [t.1] := by rw [List.getElem?_map, h1]; rfl
    have hil : done.length < (ts.map fun t : AV × List E => [t.1]).length := by rw [List.length_map]; omega
    have htm : t ∈ ts := List.mem_of_getElem? h1
    have ht60 := h60 t htm
    have hrt : Rise t.2 := hr t.2 (List.mem_map.2 ⟨t, htm, rfl⟩)
    have hlssplit : ts.map (·.2) = done.map (·.2) ++ t.2 :: r.map (·.2) := by rw [hs, List.map_append]; rfl
    refine L4_16_in (ACall.cle B table) ?_
    rw [hx.1.len, ob_some, List.length_map]
    refine bs_yes (decide_eq_true (by omega)) ?_
    rw [List.map_cons, keptF, List.length_append] at hk
    -- the entries of one list
    have inner : ∀ (es : List E) (k c : Nat) (G : Heap), t.2.drop k = es → k ≤ t.2.length → (∃ L, G = H ++ L) → c ≤ done.length * 60 + k → c + ((es.filter (keeps bot (done.map (·.2)))).length + (keptF bot (done.map (·.2) ++ [t.2]) (r.map (·.2))).length) = (mergeL (ts.map (·.2)) bot).length → L4_14 B (Cl B) n bot (.bool true) x6 x7 (c : Int) (done.length : Int) (k : Int) G Q := by
      intro es
      induction es with
      | nil =>
        intro k c G hd hkl hp hc hk
        obtain ⟨L, hL⟩ := hp
        have hxG : Ls B G x6 ts := by rw [hL]; exact hx.pre
        have hle := drop_nil hd
        refine L4_14_in (ACall.cle B table) (op_idx hxG.1 hil ?_)
        rw [(hxG.1.el hrow).peek0 (v := t.1) rfl, ob_some]
        have hl := hxG.2 t htm
        refine Sl.live hl _ ?_
        rw [hl.len, ob_some, List.length_map]
        refine bs_no (decide_eq_false (by omega)) (J4_15_in ?_)
        rw [w64 (by omega)]
        simp only [List.filter_nil, List.length_nil, Nat.zero_add] at hk
        have := ih (done ++ [t]) c G (by rw [hs]; simp) ⟨L, hL⟩ (by simp only [List.length_append, List.length_singleton]; omega) (by rw [List.map_append]; exact hk)
        simpa using this
      | cons e es ihe =>
        intro k c G hd hkl hp hc hk
        obtain ⟨L, hL⟩ := hp
        obtain ⟨g1, g2, g3⟩ := drop_cons hd
        have hxG : Ls B G x6 ts := by rw [hL]; exact hx.pre
        refine L4_14_in (ACall.cle B table) (op_idx hxG.1 hil ?_)
        have hpk := (hxG.1.el hrow).peek0 (v := t.1) rfl
        rw [hpk, ob_some]
        have hl := hxG.2 t htm
        refine Sl.live hl _ ?_
        rw [hl.len, ob_some, List.length_map]
        refine bs_yes (decide_eq_true (by omega)) (J4_13_in (op_idx hxG.1 hil ?_))
        rw [hpk, ob_some]
        have hr' : (t.2.map E.row)[k]? = some e.row := by rw [List.getElem?_map, g1]; rfl
        refine Sl.live hl _ (op_idx hl (by rw [List.length_map]; exact g2) ?_)
        rw [(hl.el hr').peekN (n := 4) rfl, ob_some]
        refine op_alloc (op_st_last rfl rfl (J4_11_in (J4_10_in ?_)))
        have hp' : (G ++ [AObj.var e.row])[G.length]? = some (.var e.row) := by rw [get_app0]; rfl
        have hpre : ∃ L, G ++ [AObj.var e.row] = H ++ L := by rw [hL, List.append_assoc]; exact ⟨_, rfl⟩
        have hxG' := hxG.pre (L := [.var e.row])
        have hoG' : Sl B (G ++ [.var e.row]) 4 x7 ((mergeL (ts.map (·.2)) bot).map E.row) := by rw [hL, List.append_assoc]; exact ho.pre
        show L4_5 B (Cl B) n bot (.bool true) x6 x7 (c : Int) (done.length : Int) (k : Int) (pt G.length) (.bool false) 0 (G ++ [.var e.row]) Q
        generalize G.length = p at hp' ⊢
        generalize G ++ [AObj.var e.row] = G' at hp' hpre hxG' hoG' ⊢
        have pk : ∀ {j : Nat} {v : AV}, e.row[j]? = some v → peek B G' (.ptr (some (.new p, 0 + j))) = some v := fun {j v} hv => peekV hp' (by rw [Nat.zero_add]; exact hv)
        have skip : keeps bot (done.map (·.2)) e = false → J4_12 B (Cl B) n bot (.bool true) x6 x7 (c : Int) (done.length : Int) (k : Int) G' Q := fun hkp => by
          refine J4_12_in ?_
          rw [w64 (by omega)]
          rw [List.filter_cons_of_neg (by simp [hkp])] at hk
          exact ihe (k + 1) c G' g3 (by omega) hpre (by omega) hk
        have count : keeps bot (done.map (·.2)) e = true → J4_8 B (Cl B) n bot (.bool true) x6 x7 (c : Int) (done.length : Int) (k : Int) (pt p) G' Q := fun hkp => by
          have hem : e ∈ mergeL (ts.map (·.2)) bot := kept_le hr hlssplit (List.mem_of_getElem? g1) hkp
          obtain ⟨f1, f2⟩ := find_mem (mergeL_rise hr) hem
          have flt := findC_lt f1
          refine J4_8_in (op_fldP ?_)
          rw [pk (j := 0) (v := .str e.key) rfl, ob_some, pStr_str]
          refine f15_ok hoG' (by omega) (live_tuple (op_extI rfl ?_))
          refine op_extB (b := findB e.key (mergeL (ts.map (·.2)) bot)) rfl (J4_7_in ?_)
          rw [f1]
          refine op_notB ?_
          rw [show (!true) = false from rfl, pGuard_bool, bs_false, hoG'.len, ob_some, List.length_map, pInt_int]
          refine ib_ge_no (by omega) ?_
          rw [pGuard_bool, bs_false]
          have hro : ((mergeL (ts.map (·.2)) bot).map E.row)[findC e.key (mergeL (ts.map (·.2)) bot)]? = some e.row := by rw [List.getElem?_map, f2]; rfl
          refine op_idx hoG' (by rw [List.length_map]; exact flt) ?_
          rw [(hoG'.el hro).peekN (n := 4) rfl, ob_some, show peekN B G' 4 (pt p) = some e.row from peekVN hp' rfl, ob_some]
          refine op_aeqN (J4_6_in ?_)
          rw [decide_eq_true rfl, show (!true) = false from rfl, pBool_bool, if_neg (by decide)]
          refine J4_12_in ?_
          rw [w64 (n := (c : Int) + 1) (by omega), w64 (n := (k : Int) + 1) (by omega)]
          rw [List.filter_cons_of_pos hkp, List.length_cons] at hk
          exact ihe (k + 1) (c + 1) G' g3 (by omega) hpre (by omega) (by omega)
        -- is there a newer one
        have newer : ∀ (prev : List (AV × List E)) (q : Nat) (b : Bool), done.drop q = prev → q ≤ done.length → (b || prev.any fun u => findB e.key u.2) = (done.any fun u => findB e.key u.2) → L4_5 B (Cl B) n bot (.bool true) x6 x7 (c : Int) (done.length : Int) (k : Int) (pt p) (.bool b) (q : Int) G' Q := by
          intro prev
          induction prev with
          | nil =>
            intro q b hd hq hb
            have hge := drop_nil hd
            refine L4_5_in (ACall.cle B table) (bs_no (decide_eq_false (by omega)) (J4_9_in ?_))
            rw [List.any_nil, Bool.or_false] at hb
            rw [pGuard_bool]
            have hany : (done.map (·.2)).any (fun p => findB e.key p) = b := by rw [List.any_map, hb]; rfl
            have hkeeps : keeps bot (done.map (·.2)) e = (!b && !(bot && e.del)) := by unfold keeps; rw [hany]
            refine bs_iff.2 ⟨fun h => skip (by rw [hkeeps, h]; rfl), fun h => ?_⟩
            rw [h] at hkeeps
            cases bot with
            | true =>
              refine bs_yes rfl (op_fldP ?_)
              rw [pk (j := 2) (v := .bool e.del) rfl, ob_some, pBool_bool]
              refine bs_iff.2 ⟨fun h => skip (by rw [hkeeps, h]; rfl), fun h => count (by rw [hkeeps, h]; rfl)⟩
            | false => exact bs_no rfl (count (by rw [hkeeps]; rfl))
          | cons u us ihn =>
            intro q b hd hq hb
            obtain ⟨d1, d2, d3⟩ := drop_cons hd
            refine L4_5_in (ACall.cle B table) (bs_yes (decide_eq_true (by omega)) (J4_4_in ?_))
            have hu1 : ts[q]? = some u := by rw [hs, List.getElem?_append_left d2]; exact d1
            have hurow : (ts.map fun t : AV × List E => [t.1])[q]? = some [u.1] := by rw [List.getElem?_map, hu1]; rfl
            have hum : u ∈ ts := List.mem_of_getElem? hu1
            refine op_idx hxG'.1 (by rw [List.length_map]; omega) ?_
            rw [(hxG'.1.el hurow).peek0 (v := u.1) rfl, ob_some]
            have hul := hxG'.2 u hum
            refine Sl.live hul _ (op_fldP ?_)
            rw [pk (j := 0) (v := .str e.key) rfl, ob_some, pStr_str]
            have hu60 := h60 u hum
            refine f15_ok hul (by omega) (live_tuple (op_extI rfl ?_))
            refine op_extB (b := findB e.key u.2) rfl (J4_3_in ?_)
            rw [pGuard_bool, w64 (by omega)]
            rw [List.any_cons] at hb
            refine bs_iff.2 ⟨fun h => ihn (q + 1) true d3 (by omega) (by rw [← hb, h]; simp), fun h => ihn (q + 1) (findB e.key u.2) d3 (by omega) (by rw [← hb, h]; simp)⟩
        exact newer done 0 false rfl (Nat.zero_le _) (by simp)
    exact inner t.2 0 c G rfl (Nat.zero_le _) hp (by omega) hk

theorem f4_ok {x : AV} {ts : List (AV × List E)} {bot : Bool} (hx : Ls B H x ts) (hq : ∀ G, Q (.bool true) G) : Cl B 4 [x, .bool bot] H Q := by
  refine f4_in fun n cl hn hcl hH hA => J4_22_in ?_
  subst hcl
  refine f9_ok fun L1 => tyK_bool (J4_21_in ?_)
  refine f14_ok hx.pre fun j L2 ts1 o1 e1 => wV_live _ _ _ _ (J4_20_in ?_)
  have hls : ts1.map (·.2) = risen (ts.map (·.2)) := e1
  have hown := o1.ls (B := B)
  have hl1 : ts1.length ≤ 12 := by
    have := congrArg List.length hls
    rw [List.length_map] at this
    have := risen_len (ts.map (·.2))
    omega
  have ht1 : tot (ts1.map (·.2)) ≤ 720 := by rw [hls]; exact risen_tot _
  have hrise : ∀ l, l ∈ ts1.map (·.2) → Rise l := by rw [hls]; exact risen_rise
  have h60 : ∀ t, t ∈ ts1 → t.2.length ≤ 60 := fun t ht => risen_each (ls := ts.map (·.2)) t.2 (by rw [← hls]; exact List.mem_map.2 ⟨t, ht, rfl⟩)
  generalize H ++ L1 ++ L2 = G2 at hown ⊢
  generalize wV j 1 (ts1.map lrow) = x6 at hown ⊢
  refine f11_L hown (by omega) (by omega) fun x7 L3 s3 => Sl.live s3 _ (J4_19_in ?_)
  have hown3 := hown.pre (L := L3)
  generalize G2 ++ L3 = G3 at hown3 s3 ⊢
  have hlen := Nat.le_trans (mergeL_len (ts1.map (·.2)) bot) ht1
  have hmr := mergeL_rise (bot := bot) hrise
  -- the keys rise
  have go : ∀ (f i : Nat), i + f = (mergeL (ts1.map (·.2)) bot).length → L4_2 B (Cl B) n bot (.bool true) x6 x7 (i : Int) G3 Q := by
    intro f
    induction f with
    | zero =>
      intro i hi
      refine L4_2_in (ACall.cle B table) ?_
      rw [s3.len, ob_some, List.length_map]
      refine bs_no (decide_eq_false (by omega)) (J4_18_in ?_)
      exact newest_loops hown3 s3 hrise hl1 h60 hlen hq ts1 [] 0 G3 rfl ⟨[], (List.append_nil _).symm⟩ (Nat.zero_le _) (by rw [Nat.zero_add]; exact kept_count hrise)
    | succ f ih =>
      intro i hi
      refine L4_2_in (ACall.cle B table) ?_
      rw [s3.len, ob_some, List.length_map]
      have next : J4_0 B (Cl B) n bot (.bool true) x6 x7 (i : Int) (.bool false) G3 Q := by
        refine J4_0_in ?_
        rw [pBool_bool, if_neg (by decide), w64 (by omega)]
        exact ih (i + 1) (by omega)
      refine bs_yes (decide_eq_true (by omega)) (J4_1_in (ib_gt ?_))
      rw [pGuard_bool]
      refine bs_dec (fun h0 => ?_) fun _ => next
      have g1 : (mergeL (ts1.map (·.2)) bot)[i - 1]? = some (mergeL (ts1.map (·.2)) bot)[i - 1] := List.getElem?_eq_getElem (by omega)
      have g2 : (mergeL (ts1.map (·.2)) bot)[i - 1 + 1]? = some (mergeL (ts1.map (·.2)) bot)[i - 1 + 1] := List.getElem?_eq_getElem (by omega)
      have hr1 : ((mergeL (ts1.map (·.2)) bot).map E.row)[i - 1]? = some (mergeL (ts1.map (·.2)) bot)[i - 1].row := by rw [List.getElem?_map, g1]; rfl
      have hr2 : ((mergeL (ts1.map (·.2)) bot).map E.row)[i - 1 + 1]? = some (mergeL (ts1.map (·.2)) bot)[i - 1 + 1].row := by rw [List.getElem?_map, g2]; rfl
      refine op_idx' (i := i - 1) s3 (by rw [w64 (by omega)]; omega) (by rw [List.length_map]; omega) (op_fld (s3.el hr1) ?_)
      rw [(s3.el hr1).fld (off := 0) (v := .str (mergeL (ts1.map (·.2)) bot)[i - 1].key) rfl, ob_some, pStr_str]
      refine op_idx' (i := i - 1 + 1) s3 (by omega) (by rw [List.length_map]; omega) (op_fld (s3.el hr2) ?_)
      rw [(s3.el hr2).fld (off := 0) (v := .str (mergeL (ts1.map (·.2)) bot)[i - 1 + 1].key) rfl, ob_some, pStr_str]
      refine sb_ge ?_
      rw [rise_get hmr g1 g2]
      exact next
  exact go _ 0 (Nat.zero_add _)

end
end Go.Am
