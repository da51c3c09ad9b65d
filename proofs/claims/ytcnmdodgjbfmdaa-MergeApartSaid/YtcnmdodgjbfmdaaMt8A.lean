/- The law MergeApart: it holds. -/
import Derived.Test.YtcnmdodgjbfmdaaMt5A
import Derived.Test.YtcnmdodgjbfmdaaAg8
namespace Go.Am
open Go

/-! ### In plain Lean -/
def addK (c : UInt8) (e : E) : E := { e with key := c :: e.key }
theorem less_same (c : UInt8) (a b : List UInt8) : sLess (c :: a) (c :: b) = sLess a b := by
  rw [sLess_cons]; simp
theorem addK_rise {c : UInt8} {l : List E} (h : Rise l) : Rise (l.map (addK c)) := by
  unfold Rise at h ⊢
  rw [List.pairwise_map]
  refine List.Pairwise.imp (fun {a b} (hab : sLess a.key b.key = true) => ?_) h
  show sLess (c :: a.key) (c :: b.key) = true
  rw [less_same]; exact hab
theorem apart_rise {a b : List E} (ha : Rise a) (hb : Rise b) : Rise (a.map (addK 97) ++ b.map (addK 98)) := by
  refine List.pairwise_append.2 ⟨addK_rise ha, addK_rise hb, fun x hx y hy => ?_⟩
  obtain ⟨u, _, rfl⟩ := List.mem_map.1 hx
  obtain ⟨v, _, rfl⟩ := List.mem_map.1 hy
  rfl
theorem apart_key {a b : List E} {x y : E} (hx : x ∈ a.map (addK 97)) (hy : y ∈ b.map (addK 98)) : x.key ≠ y.key := by
  obtain ⟨u, _, rfl⟩ := List.mem_map.1 hx
  obtain ⟨v, _, rfl⟩ := List.mem_map.1 hy
  intro e
  have : (97 : UInt8) = 98 := by injection e
  exact absurd this (by decide)
theorem apart_two {p q s : List E} (hp : Rise p) (hq : Rise q) (hs : Rise s) (hm : ∀ e, e ∈ s ↔ e ∈ p ∨ e ∈ q) (hd : ∀ x, x ∈ p → ∀ y, y ∈ q → x.key ≠ y.key) : mergeL [p, q] false = s := by
  have h3 : ∀ l, l ∈ [p, q] → Rise l := fun l hl => by
    simp at hl; rcases hl with rfl | rfl
    · exact hp
    · exact hq
  refine (mergeL_rise h3).ext hs fun e => ?_
  rw [mergeL_mem h3, hm, look_cons, look_cons]
  constructor
  · rintro ⟨h, _⟩
    cases hg : getE e.key p with
    | some x => rw [hg] at h; cases h; exact .inl (getE_mem hg).1
    | none =>
      rw [hg] at h
      cases hg2 : getE e.key q with
      | some x => rw [hg2] at h; cases h; exact .inr (getE_mem hg2).1
      | none => rw [hg2] at h; cases h
  · rintro (h | h)
    · rw [(getE_iff hp).2 h]; exact ⟨rfl, rfl⟩
    · have : getE e.key p = none := getE_none.2 fun x hx => hd x hx e h
      rw [this, (getE_iff hq).2 h]; exact ⟨rfl, rfl⟩
theorem sorted_rise : ∀ {l : List E}, Rise l → sortedF l = true
  | [], _ => rfl
  | [_], _ => rfl
  | a :: b :: r, h => by
    rw [sortedF, h.head b (List.mem_cons_self ..), sorted_rise h.tail]; rfl

theorem set_key {k : List UInt8} : ∀ {l : List E} {i : Nat} {e : E}, l[i]? = some e → (l.map E.row).flatten.set (i * 4) (.str k) = ((l.set i { e with key := k }).map E.row).flatten
  | [], _, _, h => by simp at h
  | x :: r, 0, e, h => by
    simp at h; subst h
    rfl
  | x :: r, i + 1, e, h => by
    have ih := set_key (k := k) (l := r) (i := i) (e := e) (by simpa using h)
    have e1 : (i + 1) * 4 = i * 4 + 1 + 1 + 1 + 1 := by omega
    rw [e1]
    show _ :: _ :: _ :: _ :: ((r.map E.row).flatten.set (i * 4) (.str k)) = _
    rw [ih]; rfl
/-- As far as it is written. -/
def part (c : UInt8) (l : List E) (i : Nat) : List E := (l.take i).map (addK c) ++ l.drop i
theorem part_len (c : UInt8) (l : List E) (i : Nat) : (part c l i).length = l.length := by
  unfold part
  have := congrArg List.length (List.take_append_drop i l)
  rw [List.length_append] at this
  rw [List.length_append, List.length_map]; exact this
theorem part_get {c : UInt8} {l : List E} {i : Nat} {e : E} (h : l[i]? = some e) : (part c l i)[i]? = some e ∧ (part c l i).set i (addK c e) = part c l (i + 1) := by
  obtain ⟨hlt, rfl⟩ := List.getElem?_eq_some_iff.1 h
  have hl : ((l.take i).map (addK c)).length = i := by rw [List.length_map, List.length_take]; omega
  unfold part
  constructor
  · rw [List.getElem?_append_right (by omega), hl, Nat.sub_self, List.getElem?_drop, Nat.add_zero]; exact h
  · rw [List.set_append_right _ _ (by omega), hl, Nat.sub_self, List.drop_eq_getElem_cons hlt, List.set_cons_zero, List.take_add_one, h, List.map_append, List.append_assoc]
    rfl
theorem part_end {c : UInt8} {l : List E} {i : Nat} (h : l.length ≤ i) : part c l i = l.map (addK c) := by
  unfold part; rw [List.take_of_length_le h, List.drop_eq_nil_of_le h, List.append_nil]

section
variable {B : Base} {n : Nat} {H G : Heap} {Q : AV → Heap → Prop}

/-- nil, or at q a list of its own. -/
def At4 (G : Heap) (v : AV) (l : List E) : Prop := (v = .nils ∧ l = []) ∨ ∃ q, v = wV q 4 (l.map E.row) ∧ G[q]? = some (.arr (l.map E.row).flatten)
theorem At4.sl {v : AV} {l : List E} (h : At4 G v l) : Sl B G 4 v (l.map E.row) := by
  rcases h with ⟨rfl, rfl⟩ | ⟨q, rfl, hg⟩
  · exact ⟨fun r hr => by simp at hr, .inl ⟨rfl, rfl⟩⟩
  · exact wV_sl hg (E.rows_len _)
theorem At4.set {v : AV} {l : List E} (h : At4 G v l) {k : Nat} (hk : at? v ≠ some k) (o : AObj) : At4 (G.set k o) v l := h.imp id fun ⟨q, a, b⟩ => ⟨q, a, by
  rw [get_set_ne (fun e => hk (by rw [a, at_wV, e]))]; exact b⟩

theorem add_ok {c : UInt8} {s : List UInt8} {K : AV → Prop} (hs : s.length ≤ 140737488355328) (hk : K (.str (c :: s))) : sbinK .add [c] s K := by
  show (if [c].length + s.length ≤ maxInt then K (.str ([c] ++ s)) else False)
  rw [if_pos (by simp only [List.length_singleton]; have : maxInt = 9223372036854775807 := rfl; omega)]
  exact hk

theorem key_loop1 {x7 x8 : AV} {a b : List E} (ha : a.length ≤ 60) (hka : ∀ e, e ∈ a → e.key.length ≤ 140737488355328) (hap : ∀ q, at? x7 = some q → at? x8 ≠ some q) (hq : ∀ G, At4 G x7 (a.map (addK 97)) → At4 G x8 b → J8_11 B (Cl B) n (.bool true) x7 x8 G Q) :
    ∀ (r : List E) (i : Nat) (G : Heap), a.drop i = r → At4 G x7 (part 97 a i) → At4 G x8 b → L8_2 B (Cl B) n (.bool true) x7 x8 (i : Int) G Q := by
  intro r
  induction r with
  | nil =>
    intro i G hd h7 h8
    have hs := h7.sl (B := B)
    refine L8_2_in (ACall.cle B table) ?_
    have := drop_nil hd
    rw [hs.len, ob_some, List.length_map, part_len]
    refine bs_no (decide_eq_false (by omega)) (hq G ?_ h8)
    rw [← part_end this]; exact h7
  | cons e r ih =>
    intro i G hd h7 h8
    obtain ⟨g1, g2, g3⟩ := drop_cons hd
    have hs := h7.sl (B := B)
    obtain ⟨p1, p2⟩ := part_get (c := 97) g1
    have hr : ((part 97 a i).map E.row)[i]? = some e.row := by rw [List.getElem?_map, p1]; rfl
    have hil : i < ((part 97 a i).map E.row).length := by rw [List.length_map, part_len]; exact g2
    refine L8_2_in (ACall.cle B table) ?_
    rw [hs.len, ob_some, List.length_map, part_len]
    refine bs_yes (decide_eq_true (by omega)) (J8_1_in (op_idx hs hil (op_fld (hs.el hr) ?_)))
    rw [(hs.el hr).fld (off := 0) (v := .str e.key) rfl, ob_some, pStr_str, pStr_str]
    refine add_ok (hka e (List.mem_of_getElem? g1)) (op_idx hs hil (op_fld (hs.el hr) ?_))
    obtain ⟨q, hv, hg⟩ : ∃ q, x7 = wV q 4 ((part 97 a i).map E.row) ∧ G[q]? = some (.arr ((part 97 a i).map E.row).flatten) := by
      rcases h7 with ⟨_, e⟩ | h
      · rw [e] at hil; simp at hil
      · exact h
    have hept : fpt (ept 4 x7 i) 0 = .ptr (some (.new q, i * 4)) := by rw [hv, wV_ept]; simp [fpt]
    rw [hept]
    have hfl : ((part 97 a i).map E.row).flatten.length = a.length * 4 := by rw [flatten_len (E.rows_len _), List.length_map, part_len]
    refine op_st_arr (n := 1) (vs := [.str (97 :: e.key)]) rfl rfl hg (by omega) (J8_0_in ?_)
    rw [putAt_set (by omega), set_key p1, w64 (by omega)]
    have hadd : ({ e with key := 97 :: e.key } : E) = addK 97 e := rfl
    rw [hadd, p2]
    have hat : at? x7 = some q := by rw [hv, at_wV]
    refine ih (i + 1) _ g3 (.inr ⟨q, ?_, get_set (lt_of_get hg)⟩) (h8.set (hap q hat) _)
    rw [hv]; exact wV_congr (by rw [List.length_map, List.length_map, part_len, part_len])

theorem key_loop2 {x7 x8 : AV} {a b : List E} (hb : b.length ≤ 60) (hkb : ∀ e, e ∈ b → e.key.length ≤ 140737488355328) (hap : ∀ q, at? x8 = some q → at? x7 ≠ some q) (hq : ∀ G, At4 G x7 a → At4 G x8 (b.map (addK 98)) → J8_10 B (Cl B) n (.bool true) x7 x8 G Q) :
    ∀ (r : List E) (i : Nat) (G : Heap), b.drop i = r → At4 G x7 a → At4 G x8 (part 98 b i) → L8_5 B (Cl B) n (.bool true) x7 x8 (i : Int) G Q := by
  intro r
  induction r with
  | nil =>
    intro i G hd h7 h8
    have hs := h8.sl (B := B)
    refine L8_5_in (ACall.cle B table) ?_
    have := drop_nil hd
    rw [hs.len, ob_some, List.length_map, part_len]
    refine bs_no (decide_eq_false (by omega)) (hq G h7 ?_)
    rw [← part_end this]; exact h8
  | cons e r ih =>
    intro i G hd h7 h8
    obtain ⟨g1, g2, g3⟩ := drop_cons hd
    have hs := h8.sl (B := B)
    obtain ⟨p1, p2⟩ := part_get (c := 98) g1
    have hr : ((part 98 b i).map E.row)[i]? = some e.row := by rw [List.getElem?_map, p1]; rfl
    have hil : i < ((part 98 b i).map E.row).length := by rw [List.length_map, part_len]; exact g2
    refine L8_5_in (ACall.cle B table) ?_
    rw [hs.len, ob_some, List.length_map, part_len]
    refine bs_yes (decide_eq_true (by omega)) (J8_4_in (op_idx hs hil (op_fld (hs.el hr) ?_)))
    rw [(hs.el hr).fld (off := 0) (v := .str e.key) rfl, ob_some, pStr_str, pStr_str]
    refine add_ok (hkb e (List.mem_of_getElem? g1)) (op_idx hs hil (op_fld (hs.el hr) ?_))
    obtain ⟨q, hv, hg⟩ : ∃ q, x8 = wV q 4 ((part 98 b i).map E.row) ∧ G[q]? = some (.arr ((part 98 b i).map E.row).flatten) := by
      rcases h8 with ⟨_, e⟩ | h
      · rw [e] at hil; simp at hil
      · exact h
    have hept : fpt (ept 4 x8 i) 0 = .ptr (some (.new q, i * 4)) := by rw [hv, wV_ept]; simp [fpt]
    rw [hept]
    have hfl : ((part 98 b i).map E.row).flatten.length = b.length * 4 := by rw [flatten_len (E.rows_len _), List.length_map, part_len]
    refine op_st_arr (n := 1) (vs := [.str (98 :: e.key)]) rfl rfl hg (by omega) (J8_3_in ?_)
    rw [putAt_set (by omega), set_key p1, w64 (by omega)]
    have hadd : ({ e with key := 98 :: e.key } : E) = addK 98 e := rfl
    rw [hadd, p2]
    have hat : at? x8 = some q := by rw [hv, at_wV]
    refine ih (i + 1) _ g3 (h7.set (hap q hat) _) (.inr ⟨q, ?_, get_set (lt_of_get hg)⟩)
    rw [hv]; exact wV_congr (by rw [List.length_map, List.length_map, part_len, part_len])

theorem foldG_keys {P : List UInt8 → Prop} : ∀ (r out : List E), (∀ e, e ∈ out → P e.key) → (∀ e, e ∈ r → P e.key) → ∀ e, e ∈ foldG out r → P e.key
  | [], out, h, _, e, he => h e he
  | x :: r, out, h, hr, e, he => by
    refine foldG_keys r (putE out x) (fun y hy => ?_) (fun y hy => hr y (List.mem_cons_of_mem _ hy)) e he
    have hx := hr x (List.mem_cons_self ..)
    unfold putE at hy
    split at hy
    · split at hy
      · rcases List.mem_or_eq_of_mem_set hy with hy | rfl
        · exact h y hy
        · exact hx
      · exact h y hy
    · rcases List.mem_append.1 hy with hy | hy
      · rcases List.mem_append.1 hy with hy | hy
        · exact h y (List.mem_of_mem_take hy)
        · rw [List.mem_singleton.1 hy]; exact hx
      · exact h y (List.mem_of_mem_drop hy)

theorem f8_ok {x y : AV} {l m : List E} (hx : Sl B H 4 x (l.map E.row)) (hy : Sl B H 4 y (m.map E.row)) (hkl : ∀ e, e ∈ l → e.key.length ≤ 140737488355328) (hkm : ∀ e, e ∈ m → e.key.length ≤ 140737488355328) (hq : ∀ G, Q (.bool true) G) : Cl B 8 [x, y] H Q := by
  have hbig : maxBytes = 140737488355328 := rfl
  refine f8_in fun n cl hn hcl hH hA => J8_16_in ?_
  subst hcl
  refine f9_ok fun L1 => tyK_bool (J8_15_in ?_)
  have hx1 := hx.pre (L := L1)
  have hy1 := hy.pre (L := L1)
  generalize H ++ L1 = G1 at hx1 hy1 ⊢
  obtain ⟨y1, y2⟩ := ls_two hx1 hy1
  rw [y1, ob_some]
  refine slK_in (f14_ok y2 fun j L2 ts1 o1 e1 => wV_live _ _ _ _ (J8_14_in ?_))
  have hown := o1.ls (B := B)
  obtain ⟨t, u, rfl⟩ : ∃ t u, ts1 = [t, u] := by
    have := congrArg List.length e1
    simp [small] at this
    match ts1, this with
    | [t, u], _ => exact ⟨t, u, rfl⟩
  have ht : t.2 = foldF (l.take 60) ∧ u.2 = foldF (m.take 60) := by simpa [small] using e1
  have hlen : ∀ l : List E, (foldF (l.take 60)).length ≤ 60 := fun l => by
    have := foldF_len (l.take 60)
    rw [List.length_take] at this; omega
  have hta : At4 (G1 ++ [.arr [x, y]] ++ L2) t.1 t.2 := (o1.el t (by simp)).1.imp id fun ⟨q, a, _, c⟩ => ⟨q, a, c⟩
  have hua : At4 (G1 ++ [.arr [x, y]] ++ L2) u.1 u.2 := (o1.el u (by simp)).1.imp id fun ⟨q, a, _, c⟩ => ⟨q, a, c⟩
  have hap : ∀ q, at? t.1 = some q → at? u.1 ≠ some q := by
    have := o1.nd
    rw [List.pairwise_cons] at this
    exact this.1 u (by simp)
  have hk1 : ∀ e, e ∈ t.2 → e.key.length ≤ 140737488355328 := by
    rw [ht.1]; exact foldG_keys (P := fun k => k.length ≤ 140737488355328) _ _ (fun e he => (List.not_mem_nil he).elim) fun e he => hkl e (List.mem_of_mem_take he)
  have hk2 : ∀ e, e ∈ u.2 → e.key.length ≤ 140737488355328 := by
    rw [ht.2]; exact foldG_keys (P := fun k => k.length ≤ 140737488355328) _ _ (fun e he => (List.not_mem_nil he).elim) fun e he => hkm e (List.mem_of_mem_take he)
  have r1 : Rise t.2 := by rw [ht.1]; exact foldF_rise _
  have r2 : Rise u.2 := by rw [ht.2]; exact foldF_rise _
  have n1 : t.2.length ≤ 60 := by rw [ht.1]; exact hlen l
  have n2 : u.2.length ≤ 60 := by rw [ht.2]; exact hlen m
  generalize G1 ++ [AObj.arr [x, y]] ++ L2 = G2 at hown hta hua ⊢
  refine op_idx' (i := 0) hown.1 rfl (by simp) ?_
  rw [(hown.1.el (i := 0) (row := [t.1]) rfl).peek0 (v := t.1) rfl, ob_some]
  refine Sl.live (hta.sl (B := B)) _ (J8_13_in (op_idx' (i := 1) hown.1 rfl (by simp) ?_))
  rw [(hown.1.el (i := 1) (row := [u.1]) rfl).peek0 (v := u.1) rfl, ob_some]
  refine Sl.live (hua.sl (B := B)) _ (J8_12_in ?_)
  obtain ⟨x7, a⟩ := t
  obtain ⟨x8, b⟩ := u
  simp only at hta hua hap hk1 hk2 r1 r2 n1 n2 ⊢
  refine key_loop1 n1 hk1 hap (fun G3 h7 h8 => J8_11_in ?_) a 0 G2 rfl (by unfold part; simpa using hta) hua
  refine key_loop2 n2 hk2 (fun q h e => hap q e h) (fun G4 h7 h8 => J8_10_in ?_) b 0 G3 rfl h7 (by unfold part; simpa using h8)
  have m1 : (a.map (addK 97)).length ≤ 60 := by rw [List.length_map]; exact n1
  have m2 : (b.map (addK 98)).length ≤ 60 := by rw [List.length_map]; exact n2
  have q1 : Rise (a.map (addK 97)) := addK_rise r1
  have q2 : Rise (b.map (addK 98)) := addK_rise r2
  have q3 := apart_rise r1 r2
  have hd : ∀ p, p ∈ a.map (addK 97) → ∀ q, q ∈ b.map (addK 98) → p.key ≠ q.key := fun p hp q hq => apart_key hp hq
  have w1 : mergeL [a.map (addK 97), b.map (addK 98)] false = a.map (addK 97) ++ b.map (addK 98) := apart_two q1 q2 q3 (fun e => List.mem_append) hd
  have w2 : mergeL [b.map (addK 98), a.map (addK 97)] false = a.map (addK 97) ++ b.map (addK 98) := apart_two q2 q1 q3 (fun e => by rw [List.mem_append, or_comm]) fun p hp q hq e => hd q hq p hp e.symm
  have s7 := h7.sl (B := B)
  have s8 := h8.sl (B := B)
  generalize a.map (addK 97) = a' at *
  generalize b.map (addK 98) = b' at *
  -- what is wanted
  rw [show layParts [] [] = some [] from rfl, ob_some]
  refine slK_in ?_
  have g0 : (G4 ++ [AObj.arr []])[G4.length]? = some (.arr ([] : List (List AV)).flatten) := by rw [get_app0]; rfl
  refine op_appendN (rows1 := []) (rows2 := a'.map E.row) g0 (fun r hr => by cases hr) s7.pre (by rw [List.length_nil, List.length_map]; omega) fun k1 o L hk hg => J8_9_in ?_
  rw [List.nil_append] at hg ⊢
  have e1 : (G4 ++ [AObj.arr []]).set G4.length o ++ L = G4 ++ (o :: L) := by rw [set_app0, List.append_assoc]; rfl
  rw [e1] at hg ⊢
  refine op_appendN (rows1 := a'.map E.row) (rows2 := b'.map E.row) hg (E.rows_len _) s8.pre (by rw [List.length_map, List.length_map]; omega) fun k2 o2 L2 hk' hg' => J8_8_in ?_
  have e2 : (G4 ++ o :: L).set k1 o2 ++ L2 = G4 ++ ((o :: L).set (k1 - G4.length) o2 ++ L2) := by rw [List.set_append_right _ _ hk, List.append_assoc]
  rw [← List.map_append] at hg' ⊢
  rw [e2] at hg' ⊢
  have sw : Sl B (G4 ++ ((o :: L).set (k1 - G4.length) o2 ++ L2)) 4 (wV k2 4 ((a' ++ b').map E.row)) ((a' ++ b').map E.row) := wV_sl hg' (E.rows_len _)
  have s71 := s7.pre (L := (o :: L).set (k1 - G4.length) o2 ++ L2)
  have s81 := s8.pre (L := (o :: L).set (k1 - G4.length) o2 ++ L2)
  generalize G4 ++ ((o :: L).set (k1 - G4.length) o2 ++ L2) = G5 at sw s71 s81 ⊢
  generalize wV k2 4 ((a' ++ b').map E.row) = xw at sw ⊢
  obtain ⟨z1, z2⟩ := ls_two s71 s81
  rw [z1, ob_some]
  have hlen2 : (a' ++ b').length ≤ 120 := by rw [List.length_append]; omega
  refine slK_in (f11_L z2 (by simp) (by simp only [List.map_cons, List.map_nil, tot, List.sum_cons, List.sum_nil]; omega) fun v1 L6 s1 => Sl.live s1 _ ?_)
  simp only [List.map_cons, List.map_nil] at s1
  rw [w1] at s1
  have sw2 := (sw.pre (L := [.arr [x7, x8]])).pre (L := L6)
  refine f12_ok s1 sw2 (by omega) (tyK_bool (J8_7_in ?_))
  rw [decide_eq_true rfl]
  have s72 := (s71.pre (L := [.arr [x7, x8]])).pre (L := L6)
  have s82 := (s81.pre (L := [.arr [x7, x8]])).pre (L := L6)
  generalize G5 ++ [AObj.arr [x7, x8]] ++ L6 = G6 at s72 s82 sw2 ⊢
  obtain ⟨y3, y4⟩ := ls_two s82 s72
  rw [y3, ob_some]
  refine slK_in (f11_L y4 (by simp) (by simp only [List.map_cons, List.map_nil, tot, List.sum_cons, List.sum_nil]; omega) fun v2 L7 s2 => Sl.live s2 _ ?_)
  simp only [List.map_cons, List.map_nil] at s2
  rw [w2] at s2
  have sw3 := (sw2.pre (L := [.arr [x8, x7]])).pre (L := L7)
  refine f12_ok s2 sw3 (by omega) (tyK_bool (J8_6_in ?_))
  rw [decide_eq_true rfl, pGuard_bool, bs_true, pGuard_bool, bs_true, pGuard_bool, bs_true]
  refine f18_ok sw3 (by omega) (tyK_bool (tidy_none ?_))
  rw [sorted_rise q3]
  exact hq _

end
end Go.Am
