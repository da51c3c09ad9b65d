/- The document's answer: Same, least, Merge. -/
import Derived.Test.YtcnmdodgjbfmdaaMgA
import Derived.Test.YtcnmdodgjbfmdaaAgS
import Derived.Test.YtcnmdodgjbfmdaaAgS
namespace Go.Am
open Go

section
variable {B : Base} {n : Nat} {H G : Heap} {Q : AV → Heap → Prop}

theorem ent_eq (a b : E) : cellsEq [(0, .str), (1, .str), (2, .bool), (3, (.int .i64))] a.row b.row = some (decide (a = b)) := by
  obtain ⟨k1, v1, d1, s1⟩ := a
  obtain ⟨k2, v2, d2, s2⟩ := b
  simp only [cellsEq, E.row, List.getElem?_cons_zero, List.getElem?_cons_succ, cellEq, if_true]
  by_cases h1 : k1 = k2
  · by_cases h2 : v1 = v2
    · by_cases h3 : d1 = d2
      · by_cases h4 : s1 = s2
        · simp [h1, h2, h3, h4]
        · simp [h1, h2, h3, h4, beq_eq_false_iff_ne.2 h4]
      · simp [h1, h2, h3, beq_eq_false_iff_ne.2 h3]
    · simp [h1, h2, beq_eq_false_iff_ne.2 h2]
  · simp [h1, beq_eq_false_iff_ne.2 h1]
theorem f12_ok {us ws : List E} {x y : AV} (ha : Sl B H 4 x (us.map E.row)) (hb : Sl B H 4 y (ws.map E.row)) (hsz : us.length ≤ 100000) (h : Q (.bool (decide (us = ws))) H) : Cl B 12 [x, y] H Q := by
  refine f12_in fun n cl hn hcl hH hA => ?_
  subst hcl
  have hla : lenOf x = some us.length := by have := ha.len; rwa [List.length_map] at this
  have hlb : lenOf y = some ws.length := by have := hb.len; rwa [List.length_map] at this
  rw [hla, ob_some, hlb, ob_some]
  by_cases hl : us.length = ws.length
  · refine bs_no (by simp [hl]) ?_
    have go : ∀ (ra rb : List E) (i : Nat), us.drop i = ra → ws.drop i = rb → decide (ra = rb) = decide (us = ws) → L12_0 B (Cl B) n x y (i : Int) H Q := fun ra => by
      induction ra with
      | nil =>
        intro rb i h1 h2 h3
        have hi := drop_nil h1
        refine L12_0_in (ACall.cle B table) ?_
        rw [hla, ob_some]
        refine bs_dec (fun h => by omega) fun _ => J12_1_in (tidy_none ?_)
        have : rb = [] := by rw [← h2]; exact List.drop_eq_nil_of_le (by omega)
        subst this
        rw [← h3] at h; exact h
      | cons a r ih =>
        intro rb i h1 h2 h3
        obtain ⟨g1, lt1, d1⟩ := drop_cons h1
        obtain ⟨b, r2, rfl⟩ : ∃ b r2, rb = b :: r2 := by
          cases rb with
          | nil => have := drop_nil h2; omega
          | cons b r2 => exact ⟨b, r2, rfl⟩
        obtain ⟨g2, lt2, d2⟩ := drop_cons h2
        have r1 : (us.map E.row)[i]? = some a.row := by simp [g1]
        have r2' : (ws.map E.row)[i]? = some b.row := by simp [g2]
        refine L12_0_in (ACall.cle B table) ?_
        rw [hla, ob_some]
        refine bs_dec (fun _ => op_idx ha (by simpa using lt1) ?_) fun h => absurd (by omega) h
        rw [(ha.el r1).peekN (n := 4) rfl, ob_some]
        refine op_idx hb (by simpa using lt2) ?_
        rw [(hb.el r2').peekN (n := 4) rfl, ob_some]
        have ae : ∀ K : AV → Heap → Prop, K (.bool (!decide (a = b))) H → aop B E0 H K (.aeq true 4 [(0, .str), (1, .str), (2, .bool), (3, (.int .i64))] (.const (.agg a.row)) (.const (.agg b.row))) := fun K hK => by
          simp only [aop, opK, Opd.look, ob_some, ent_eq]
          rw [if_pos ⟨rfl, rfl⟩]
          exact bool_split (K := fun v => K v H) hK
        refine ae _ ?_
        rw [pBool_bool]
        by_cases hab : a = b
        · rw [if_neg (by simp [hab]), w64 (n := (i : Int) + 1) (by omega)]
          refine ih r2 (i + 1) d1 d2 ?_
          rw [← h3, hab]; simp
        · rw [if_pos (by simp [hab])]
          refine tidy_none ?_
          have : decide (us = ws) = false := by rw [← h3]; simp [hab]
          rw [← this]; exact h
    exact go us ws 0 rfl rfl rfl
  · refine bs_yes (by simp; omega) (tidy_none ?_)
    have : decide (us = ws) = false := by simp; intro e; exact hl (by rw [e])
    rw [← this]; exact h


theorem op_nilS {K : AV → Heap → Prop} {v : AV} (b : Bool) (hn : nilOf .slice v = some b) (hk : K (.bool b) G) : aop B E0 G K (.isNil .slice false (.const v)) := by
  simp only [aop, opK, Opd.look, ob_some, hn]
  cases b <;> exact hk

theorem Ls.pre {L : Heap} {x : AV} {ts : List (AV × List E)} (h : Ls B G x ts) : Ls B (G ++ L) x ts := ⟨h.1.pre, fun t ht => (h.2 t ht).pre⟩

/-! ### The least key -/
def accV (a : Option (List UInt8)) : AV := .str (a.getD [])
theorem f24_ok {x : AV} {ts : List (AV × List E)} (hx : Ls B G x ts) (hb : (ts.length : Int) < 4611686018427387904) (hq : Q (.tuple [.str ((leastF none (ts.map (·.2))).getD []), .bool (leastF none (ts.map (·.2))).isSome]) G) : Cl B 24 [x] G Q := by
  refine f24_in fun n cl hn hcl hH hA => ?_
  subst hcl
  have go : ∀ (r : List (AV × List E)) (i : Nat) (acc : Option (List UInt8)), ts.drop i = r → leastF acc (r.map (·.2)) = leastF none (ts.map (·.2)) → L24_3 B (Cl B) n x (accV acc) acc.isSome (i : Int) G Q := by
    intro r
    induction r with
    | nil =>
      intro i acc hd he
      refine L24_3_in (ACall.cle B table) ?_
      rw [hx.1.len, ob_some, List.length_map]
      have := drop_nil hd
      refine bs_no (decide_eq_false (by omega)) (J24_4_in (tidy_none ?_))
      rw [← he] at hq
      exact hq
    | cons t r ih =>
      intro i acc hd he
      obtain ⟨h1, h2, h3⟩ := drop_cons hd
      refine L24_3_in (ACall.cle B table) ?_
      rw [hx.1.len, ob_some, List.length_map]
      refine bs_yes (decide_eq_true (by omega)) (J24_2_in ?_)
      have hrow : (ts.map fun t : AV × List E => [t.1])[i]? = some [t.1] := by rw [List.getElem?_map, h1]; rfl
      have hpk := (hx.1.el hrow).peek0 (v := t.1) rfl
      refine op_idx hx.1 (by simpa using h2) ?_
      rw [hpk, ob_some]
      have hl := hx.2 t (List.mem_of_getElem? h1)
      refine Sl.live hl _ ?_
      rw [hl.len, ob_some, List.length_map]
      have next : ∀ acc', leastF acc' (r.map (·.2)) = leastF none (ts.map (·.2)) → J24_1 B (Cl B) n x (accV acc') acc'.isSome (i : Int) G Q := fun acc' ha => by
        refine J24_1_in ?_
        rw [w64 (by omega)]
        exact ih (i + 1) acc' h3 ha
      obtain ⟨lv, l⟩ := t
      cases l with
      | nil =>
        refine bs_no (by simp) (J24_0_in ?_)
        rw [pBool_bool, if_neg (by decide)]
        exact next acc he
      | cons e l =>
        refine bs_yes (by simp) ?_
        have hr0 : ((e :: l).map E.row)[0]? = some e.row := rfl
        have hkey := (hl.el hr0).fld (off := 0) (v := .str e.key) rfl
        have take : ∀ b : Bool, (b = true → least1 acc e = some e.key) → (b = false → least1 acc e = acc) → J24_0 B (Cl B) n x (accV acc) acc.isSome (i : Int) (.bool b) G Q := fun b hb1 hb2 => by
          refine J24_0_in ?_
          rw [pBool_bool]
          split
          · rename_i hb'
            refine op_idx hx.1 (by simpa using h2) ?_
            rw [hpk, ob_some]
            refine Sl.live hl _ (op_idx' (i := 0) hl rfl (by simp) (op_fld (hl.el hr0) ?_))
            rw [hkey, ob_some, pStr_str]
            refine next (some e.key) ?_
            rw [← he]
            show _ = leastF acc ((e :: l) :: r.map (·.2))
            rw [leastF, hb1 hb']
          · rename_i hb'
            refine next acc ?_
            rw [← he]
            show _ = leastF acc ((e :: l) :: r.map (·.2))
            rw [leastF, hb2 (by simpa using hb')]
        cases acc with
        | none => exact bs_no rfl (take true (fun _ => rfl) (fun h => by cases h))
        | some k =>
          refine bs_yes rfl (op_idx hx.1 (by simpa using h2) ?_)
          rw [hpk, ob_some]
          refine Sl.live hl _ (op_idx' (i := 0) hl rfl (by simp) (op_fld (hl.el hr0) ?_))
          rw [hkey, ob_some, pStr_str]
          rw [show accV (some k) = .str k from rfl, pStr_str]
          refine sb_lt (take _ (fun h => ?_) fun h => ?_)
          · unfold least1; simp only; rw [if_pos h]
          · unfold least1; simp only; rw [if_neg (by simp [h])]
  exact go ts 0 none rfl rfl

end
end Go.Am

/- The document's answer: Merge. -/
namespace Go.Am
open Go

/-- What a round takes, list by list. -/
def refRow (k : List UInt8) (bot : Bool) : Bool → List (List E) → List E
  | _, [] => []
  | tk, [] :: r => refRow k bot tk r
  | tk, (e :: _) :: r => if e.key = k then (if tk = true then [] else out1 bot e) ++ refRow k bot true r else refRow k bot tk r
theorem refRow_true (k : List UInt8) (bot : Bool) : ∀ ls, refRow k bot true ls = []
  | [] => rfl
  | [] :: r => refRow_true k bot r
  | (e :: t) :: r => by
    rw [refRow]; split
    · simp [refRow_true k bot r]
    · exact refRow_true k bot r
theorem refRow_false (k : List UInt8) (bot : Bool) : ∀ ls, refRow k bot false ls = roundF k bot ls
  | [] => rfl
  | [] :: r => by rw [refRow, refRow_false k bot r]; rfl
  | (e :: t) :: r => by
    rw [refRow]
    unfold roundF
    rw [hds_cons, List.find?_cons]
    by_cases h : e.key = k
    · rw [if_pos h, refRow_true, beq_iff_eq.2 h]; simp
    · rw [if_neg h, beq_eq_false_iff_ne.2 h, refRow_false k bot r]; rfl

/-- No room behind it. -/
def capN (v : AV) : Prop := ∀ o off len es c, v = .slice o off len es (some c) → len = 0

section
variable {B : Base} {n : Nat} {H G : Heap} {Q : AV → Heap → Prop}

theorem op_sufN {K : AV → Heap → Prop} {es j : Nat} {v : AV} {rows : List (List AV)} {a : Int} (h : Sl B G es v rows) (hc : capN v) (ha : a = (j : Int)) (hj : j ≤ rows.length) (hk : ∀ v', Sl B G es v' (rows.drop j) → capN v' → K v' G) :
    aop B E0 G K (.sliceL es (.const v) (some (.const (.int .i64 a))) none none) := by
  subst ha
  obtain ⟨h0, ⟨rfl, rfl⟩ | ⟨o, off, cap, rfl, hcl⟩⟩ := h
  · have : j = 0 := by simpa using hj
    subst this
    exact hk .nils ⟨fun r hr => by simp at hr, .inl ⟨rfl, rfl⟩⟩ fun o off len es c e => by cases e
  · have h0' : ∀ r, r ∈ rows.drop j → r.length = es := fun r hr => h0 r (List.mem_of_mem_drop hr)
    have hfl : (rows.drop j).flatten = rows.flatten.drop (j * es) := by
      have h1 : rows.flatten = (rows.take j).flatten ++ (rows.drop j).flatten := by rw [← List.flatten_append, List.take_append_drop]
      have h2 : (rows.take j).flatten.length = j * es := by
        rw [flatten_len (fun r hr => h0 r (List.mem_of_mem_take hr)), List.length_take]; congr 1; omega
      rw [h1, ← h2, List.drop_left']
      rfl
    have hmul : j * es ≤ rows.length * es := Nat.mul_le_mul_right es hj
    simp only [aop, opK, Opd.look, ob_some, lenOf, optK, pAny_int, sliceOf]
    rw [if_pos ⟨trivial, by omega, by omega, by omega⟩, ob_some]
    have hcut : cellsAt B G o (off + j * es) ((rows.drop j).length * es) = some (rows.drop j).flatten := by
      have := cellsAt_sub hcl (j := j * es) (m := (rows.drop j).length * es) (by rw [List.length_drop, Nat.sub_mul]; omega)
      rw [this, hfl]
      congr 1
      rw [List.take_of_length_le]
      rw [List.length_drop, flatten_len h0, List.length_drop, Nat.sub_mul]
      exact Nat.le_refl _
    cases cap with
    | none =>
      refine hk _ ⟨h0', .inr ⟨o, off + j * es, none, by simp, hcut⟩⟩ fun o off len es c e => by cases e
    | some c =>
      have hz : rows.length = 0 := hc _ _ _ _ _ rfl
      have hj0 : j = 0 := by omega
      subst hj0
      refine hk _ ⟨h0', .inr ⟨o, off, some c, ?_, by simpa using hcut⟩⟩ fun o' off' len es' c' e => by cases e; simp; exact List.length_eq_zero_iff.1 hz
      simp

/-- The lists, each without room. -/
def LsE (B : Base) (H : Heap) (ts : List (AV × List E)) : Prop := ∀ t, t ∈ ts → Sl B H 4 t.1 (t.2.map E.row) ∧ capN t.1
def wL (j m : Nat) : AV := if m = 0 then .slice (.new j) 0 0 1 (some 0) else .slice (.new j) 0 m 1 none
theorem wL_eq {j : Nat} {rows : List (List AV)} : wV j 1 rows = wL j rows.length := by
  unfold wV wL
  by_cases h : rows = []
  · subst h; rfl
  · rw [if_neg h, if_neg (fun e => h (List.length_eq_zero_iff.1 e))]
theorem wL_ept {j m i : Nat} : ept 1 (wL j m) i = .ptr (some (.new j, i)) := by
  unfold wL; split <;> simp [ept]
def lrow (t : AV × List E) : List AV := [t.1]
theorem lrow_flat : ∀ ts : List (AV × List E), (ts.map lrow).flatten = ts.map (·.1)
  | [] => rfl
  | t :: r => by simp only [List.map_cons, List.flatten_cons, lrow_flat r]; rfl
theorem lrow_len (ts : List (AV × List E)) : ∀ r, r ∈ ts.map lrow → r.length = 1 := fun r hr => by
  obtain ⟨t, _, rfl⟩ := List.mem_map.1 hr; rfl

/-- The memory of a round. -/
structure RS (H G : Heap) (jl jo : Nat) (ts : List (AV × List E)) (out : List (List AV)) : Prop where
  pre : ∃ L, G = H ++ L
  hl : H.length ≤ jl
  ho : H.length ≤ jo
  ne : jl ≠ jo
  gl : G[jl]? = some (.arr (ts.map (·.1)))
  go : G[jo]? = some (.arr out.flatten)
theorem RS.ls {jl jo : Nat} {ts : List (AV × List E)} {out : List (List AV)} (h : RS H G jl jo ts out) (he : LsE B H ts) : Ls B G (wL jl ts.length) ts := by
  obtain ⟨L, rfl⟩ := h.pre
  refine ⟨?_, fun t ht => (he t ht).1.pre⟩
  have := wV_sl (B := B) (k := jl) (es := 1) (rows := ts.map lrow) (H := H ++ L) (by rw [lrow_flat]; exact h.gl) (lrow_len ts)
  rw [wL_eq, List.length_map] at this
  exact this

theorem row_loop {k : List UInt8} {bot : Bool} {jl m : Nat} {res : List E} {res' : List (List E)} (hm : m ≤ 1000000) (hq : ∀ ts' out' G' jo', RS H G' jl jo' ts' (out'.map E.row) → LsE B H ts' → ts'.length = m → ts'.map (·.2) = res' → out' = res → L13_7 B (Cl B) n bot (wL jl m) (wV jo' 4 (out'.map E.row)) G' Q) :
    ∀ (todo done : List (AV × List E)) (out : List E) (tk : Bool) (G : Heap) (jo : Nat), RS H G jl jo (done ++ todo) (out.map E.row) → LsE B H (done ++ todo) → done.length + todo.length = m → (out.length + todo.length) * 48 ≤ maxBytes → res = out ++ refRow k bot tk (todo.map (·.2)) → done.map (·.2) ++ (todo.map (·.2)).map (stepL k) = res' →
      L13_5 B (Cl B) n bot (wL jl m) (wV jo 4 (out.map E.row)) (.str k) tk (done.length : Int) G Q := by
  intro todo
  induction todo with
  | nil =>
    intro done out tk G jo h he hm' hb hr hl
    refine L13_5_in (ACall.cle B table) ?_
    have hx := h.ls he
    simp only [List.append_nil] at hx
    simp only [List.length_nil, Nat.add_zero] at hm'
    have hx1 := hx.1
    rw [hm'] at hx1
    rw [hx1.len, ob_some, List.length_map, hm']
    refine bs_no (decide_eq_false (by omega)) ?_
    simp only [refRow, List.map_nil, List.append_nil] at hr hl h he
    exact hq done out G jo h he hm' hl hr.symm
  | cons t r ih =>
    intro done out tk G jo h he hm' hb hr hl
    have hmm : (done ++ t :: r).length = m := by rw [List.length_append]; exact hm'
    have hx := h.ls he
    rw [hmm] at hx
    have hlt : done.length < m := by simp only [List.length_cons] at hm'; omega
    refine L13_5_in (ACall.cle B table) ?_
    rw [hx.1.len, ob_some, List.length_map, hmm]
    refine bs_yes (decide_eq_true (by omega)) (J13_4_in ?_)
    have h1 : (done ++ t :: r)[done.length]? = some t := by rw [List.getElem?_append_right (Nat.le_refl _)]; simp
    have hrow : ((done ++ t :: r).map fun t : AV × List E => [t.1])[done.length]? = some [t.1] := by rw [List.getElem?_map, h1]; rfl
    have hil : done.length < ((done ++ t :: r).map fun t : AV × List E => [t.1]).length := by rw [List.length_map, hmm]; exact hlt
    have hpk := (hx.1.el hrow).peek0 (v := t.1) rfl
    have ix : ∀ {K : AV → Heap → Prop}, K (ept 1 (wL jl m) done.length) G → aop B E0 G K (.indexPtr 1 (.const (wL jl m)) (.const (.int .i64 (done.length : Int)))) := fun hk => op_idx hx.1 hil hk
    refine ix ?_
    rw [hpk, ob_some]
    have htm : t ∈ done ++ t :: r := by simp
    have hlv := hx.2 t htm
    refine Sl.live hlv _ ?_
    rw [hlv.len, ob_some, List.length_map]
    have hassoc : done ++ t :: r = (done ++ [t]) ++ r := by simp
    have next : ∀ (t' : AV × List E) (out' : List E) (tk' : Bool) (G' : Heap) (jo' : Nat), RS H G' jl jo' (done ++ t' :: r) (out'.map E.row) → LsE B H (done ++ t' :: r) → t'.2 = stepL k t.2 → out'.length ≤ out.length + 1 → res = out' ++ refRow k bot tk' (r.map (·.2)) →
        J13_3 B (Cl B) n bot (wL jl m) (wV jo' 4 (out'.map E.row)) (.str k) tk' (done.length : Int) G' Q := fun t' out' tk' G' jo' a1 a2 a3 a4 a5 => by
      refine J13_3_in ?_
      rw [w64 (by omega)]
      have hassoc' : done ++ t' :: r = (done ++ [t']) ++ r := by simp
      rw [hassoc'] at a1 a2
      have := ih (done ++ [t']) out' tk' G' jo' a1 a2 (by simp only [List.length_append, List.length_cons, List.length_nil] at hm' ⊢; omega) (by simp only [List.length_cons] at hb; omega) a5 (by rw [← hl]; simp [a3])
      simpa using this
    obtain ⟨lv, l⟩ := t
    cases l with
    | nil =>
      refine bs_yes (by simp) (J13_0_in ?_)
      rw [pBool_bool, if_pos rfl]
      exact next (lv, []) out tk G jo h he rfl (by omega) hr
    | cons e l =>
      refine bs_no (by simp; omega) (ix ?_)
      have hr0 : ((e :: l).map E.row)[0]? = some e.row := rfl
      have hkey := (hlv.el hr0).fld (off := 0) (v := .str e.key) rfl
      rw [hpk, ob_some]
      refine Sl.live hlv _ (op_idx' (i := 0) hlv rfl (by simp) (op_fld (hlv.el hr0) ?_))
      rw [hkey, ob_some, pStr_str, pStr_str]
      have sb_ne : ∀ {K : AV → Prop}, K (.bool (!(e.key == k))) → sbinK .neq e.key k K := fun h => bool_split h
      refine sb_ne (J13_0_in ?_)
      rw [pBool_bool]
      by_cases hk : e.key = k
      · rw [if_neg (by simp [hk])]
        have hr' : res = out ++ ((if tk = true then [] else out1 bot e) ++ refRow k bot true (r.map (·.2))) := by
          rw [hr]
          show out ++ refRow k bot tk ((e :: l) :: r.map (·.2)) = _
          rw [refRow, if_pos hk]
        -- the list is passed
        have pass : ∀ (out' : List E) (G' : Heap) (jo' : Nat), RS H G' jl jo' (done ++ (lv, e :: l) :: r) (out'.map E.row) → out'.length ≤ out.length + 1 → res = out' ++ refRow k bot true (r.map (·.2)) → J13_2 B (Cl B) n bot (wL jl m) (wV jo' 4 (out'.map E.row)) (.str k) (done.length : Int) G' Q := fun out' G' jo' a1 a2 a3 => by
          have hx' := a1.ls he
          rw [hmm] at hx'
          have hpk' := (hx'.1.el hrow).peek0 (v := lv) rfl
          refine J13_2_in (op_idx hx'.1 hil ?_)
          rw [hpk', ob_some]
          have hlv' := hx'.2 _ htm
          obtain ⟨L, hL⟩ := a1.pre
          refine Sl.live hlv' _ ?_
          have hsH := he (lv, e :: l) htm
          -- the rest stands in H as well
          obtain ⟨h0, ⟨e1, e2⟩ | ⟨o, off, cap, e1, hcl⟩⟩ := hsH.1
          · cases e2
          simp only at e1
          subst e1
          have hcapn : cap = none := by
            cases cap with
            | none => rfl
            | some c => have := hsH.2 _ _ _ _ _ rfl; simp at this
          subst hcapn
          have hsl : sliceOf 4 (.slice o off ((e :: l).map E.row).length 4 none) 1 (((e :: l).map E.row).length : Int) = some (.slice o (off + 4) (l.map E.row).length 4 none) := by
            simp only [sliceOf]
            rw [if_pos ⟨trivial, by omega, by simp; omega, by omega⟩]
            simp
          have hrest : Sl B H 4 (.slice o (off + 4) (l.map E.row).length 4 none) (l.map E.row) := by
            refine ⟨E.rows_len l, .inr ⟨o, off + 4, none, rfl, ?_⟩⟩
            have := cellsAt_sub hcl (j := 4) (m := (l.map E.row).length * 4) (by simp; omega)
            rw [this]
            congr 1
            simp only [List.map_cons, List.flatten_cons]
            rw [List.drop_left' (by rfl), List.take_of_length_le]
            rw [flatten_len (E.rows_len l)]; exact Nat.le_refl _
          have eop : ∀ {K : AV → Heap → Prop}, K (.slice o (off + 4) (l.map E.row).length 4 none) G' → aop B E0 G' K (.sliceL 4 (.const (.slice o off ((e :: l).map E.row).length 4 none)) (some (.const (.int .i64 1))) none none) := fun hk => by
            simp only [aop, opK, Opd.look, ob_some, lenOf, optK, pAny_int, hsl]
            exact hk
          refine eop (op_idx hx'.1 hil ?_)
          rw [wL_ept]
          refine op_st_arr (n := 1) (vs := [.slice o (off + 4) (l.map E.row).length 4 none]) rfl rfl a1.gl (by rw [List.length_map, hmm]; omega) ?_
          rw [putAt_set (by rw [List.length_map, hmm]; exact hlt)]
          have hset : (((done ++ (AV.slice o off ((e :: l).map E.row).length 4 none, e :: l) :: r).map (·.1)).set done.length (.slice o (off + 4) (l.map E.row).length 4 none)) = (done ++ (AV.slice o (off + 4) (l.map E.row).length 4 none, l) :: r).map (·.1) := by
            simp only [List.map_append, List.map_cons]
            rw [List.set_append_right _ _ (by simp)]
            simp
          rw [hset]
          refine next (.slice o (off + 4) (l.map E.row).length 4 none, l) out' true _ jo' ⟨?_, a1.hl, a1.ho, a1.ne, get_set (lt_of_get a1.gl), by rw [get_set_ne a1.ne]; exact a1.go⟩ (fun u hu => ?_) (by rw [stepL_cons, if_pos hk]) a2 a3
          · rw [hL]; exact set_pre a1.hl
          · rcases List.mem_append.1 hu with hu | hu
            · exact he u (List.mem_append_left _ hu)
            · rcases List.mem_cons.1 hu with rfl | hu
              · exact ⟨hrest, fun o off len es c e => by cases e⟩
              · exact he u (List.mem_append_right _ (List.mem_cons_of_mem _ hu))
        -- the entry comes out, or not
        have emit : ∀ b : Bool, tk = false → b = !(bot && e.del) → J13_1 B (Cl B) n bot (wL jl m) (wV jo 4 (out.map E.row)) (.str k) (done.length : Int) (.bool b) G Q := fun b htk hb' => by
          rw [htk, if_neg (by decide)] at hr'
          refine J13_1_in ?_
          rw [pBool_bool]
          split
          · rename_i hb1
            have ho : out1 bot e = [e] := by unfold out1; rw [if_neg (by rw [hb1] at hb'; intro e2; rw [e2] at hb'; cases hb')]
            refine ix ?_
            rw [hpk, ob_some]
            refine Sl.live hlv _ (op_idx' (i := 0) hlv rfl (by simp) ?_)
            rw [(hlv.el hr0).peekN (n := 4) rfl, ob_some]
            rw [show layParts [(.str []), (.str []), (.bool false), (.int .i64 0)] [(0, 4, .agg e.row)] = some e.row from lay_row (n := 4) rfl rfl, ob_some]
            refine slK_in ?_
            obtain ⟨L, hL⟩ := h.pre
            have hjo := lt_of_get h.go
            have hjl := lt_of_get h.gl
            refine op_appendE (rows2 := [e.row]) (get_pre h.go) (E.rows_len out) (sl_row1 rfl) (by simp) (by simp only [List.length_cons] at hb; simp; omega) fun o => ?_
            have hrows : out.map E.row ++ [e.row] = (out ++ [e]).map E.row := by simp
            rw [hrows]
            have hlen : ((G ++ [AObj.arr e.row]).set jo o).length = (G ++ [AObj.arr e.row]).length := List.length_set ..
            refine pass (out ++ [e]) _ _ ⟨?_, h.hl, ?_, ?_, ?_, ?_⟩ (by simp) (by rw [hr', ho, List.append_assoc])
            · rw [hL, List.append_assoc, List.set_append_right _ _ h.ho, List.append_assoc]; exact ⟨_, rfl⟩
            · rw [hL, List.length_append, List.length_append]; omega
            · rw [List.length_append]; simp only [List.length_singleton]; omega
            · refine get_pre ?_
              rw [get_set_ne (Ne.symm h.ne)]; exact get_pre h.gl
            · rw [← hlen, get_app0]; rfl
          · rename_i hb1
            have ho : out1 bot e = [] := by
              have hbe : (bot && e.del) = true := by
                cases hbe : (bot && e.del) with
                | true => rfl
                | false => rw [hbe] at hb'; exact absurd hb' hb1
              unfold out1; rw [if_pos hbe]
            exact pass out G jo h (by omega) (by rw [hr', ho, List.nil_append])
        refine bs_iff.2 ⟨fun htk => J13_1_in ?_, fun htk => ?_⟩
        · rw [pBool_bool, if_neg (by decide)]
          exact pass out G jo h (by omega) (by rw [hr', htk, if_pos rfl, List.nil_append])
        · cases bot with
          | true =>
            refine bs_yes rfl (ix ?_)
            rw [hpk, ob_some]
            refine Sl.live hlv _ (op_idx' (i := 0) hlv rfl (by simp) (op_fld (hlv.el hr0) ?_))
            rw [(hlv.el hr0).fld (off := 2) (v := .bool e.del) rfl, ob_some]
            exact tyK_bool (op_notB (emit _ htk rfl))
          | false => exact bs_no rfl (emit _ htk rfl)
      · rw [if_pos (by simp [hk])]
        refine next (lv, e :: l) out tk G jo h he (by rw [stepL_cons, if_neg hk]) (by omega) ?_
        rw [hr]
        show out ++ refRow k bot tk ((e :: l) :: r.map (·.2)) = _
        rw [refRow, if_neg hk]

end
end Go.Am

/- The document's answer: Merge, all of it. -/
namespace Go.Am
open Go

section
variable {B : Base} {n : Nat} {H G : Heap} {Q : AV → Heap → Prop}

theorem live_tuple {l : List AV} {K : AV → Prop} (h : K (.tuple l)) : pLive (.tuple l) K := h
theorem op_extS {K : AV → Heap → Prop} {l : List AV} {i : Nat} {s : List UInt8} (h : l[i]? = some (.str s)) (hk : K (.str s) G) : aop B E0 G K (.extract (some .str) i (.const (.tuple l))) := by
  simp only [aop, opK, Opd.look, ob_some, h]
  exact hk
theorem op_extB {K : AV → Heap → Prop} {l : List AV} {i : Nat} {b : Bool} (h : l[i]? = some (.bool b)) (hk : K (.bool b) G) : aop B E0 G K (.extract (some .bool) i (.const (.tuple l))) := by
  simp only [aop, opK, Opd.look, ob_some, h]
  cases b <;> exact hk

theorem ref_loop {bot : Bool} {jl m T : Nat} {res : List E} (hm : m ≤ 1000000) (hT : (T + m) * 48 ≤ maxBytes) (hq : ∀ G jo, (∃ L, G = H ++ L) → G[jo]? = some (.arr (res.map E.row).flatten) → Q (wV jo 4 (res.map E.row)) G) :
    ∀ (f : Nat) (ts : List (AV × List E)) (out : List E) (G : Heap) (jo : Nat), RS H G jl jo ts (out.map E.row) → LsE B H ts → ts.length = m → tot (ts.map (·.2)) ≤ f → out.length + f ≤ T → res = out ++ mergeF f (ts.map (·.2)) bot →
      L13_7 B (Cl B) n bot (wL jl m) (wV jo 4 (out.map E.row)) G Q := by
  intro f
  induction f with
  | zero =>
    intro ts out G jo h he hts htot hlen hr
    have hx := h.ls he
    rw [hts] at hx
    refine L13_7_in (ACall.cle B table) (f24_ok hx (by omega) ?_)
    cases e : leastF none (ts.map (·.2)) with
    | none =>
      refine live_tuple (op_extS (s := []) rfl ?_)
      refine op_extB (b := false) rfl (J13_6_in ?_)
      rw [pBool_bool]
      refine bs_no rfl (tidy_none ?_)
      rw [show mergeF 0 (ts.map (·.2)) bot = [] from rfl, List.append_nil] at hr
      subst hr
      exact hq G jo h.pre h.go
    | some k =>
      have := tot_step_lt (leastF_some.1 e).1
      omega
  | succ f ih =>
    intro ts out G jo h he hts htot hlen hr
    have hx := h.ls he
    rw [hts] at hx
    refine L13_7_in (ACall.cle B table) (f24_ok hx (by omega) ?_)
    unfold mergeF at hr
    cases e : leastF none (ts.map (·.2)) with
    | none =>
      refine live_tuple (op_extS (s := []) rfl ?_)
      refine op_extB (b := false) rfl (J13_6_in ?_)
      rw [pBool_bool]
      refine bs_no rfl (tidy_none ?_)
      rw [e] at hr
      simp only [List.append_nil] at hr
      subst hr
      exact hq G jo h.pre h.go
    | some k =>
      have hlt := tot_step_lt (leastF_some.1 e).1
      rw [e] at hr
      simp only at hr
      refine live_tuple (op_extS (s := k) rfl ?_)
      refine op_extB (b := true) rfl (J13_6_in ?_)
      rw [pBool_bool]
      refine bs_yes rfl ?_
      have hrow1 : (roundF k bot (ts.map (·.2))).length ≤ 1 := by
        unfold roundF; split
        · unfold out1; split <;> simp
        · simp
      refine row_loop (res := out ++ roundF k bot (ts.map (·.2))) (res' := (ts.map (·.2)).map (stepL k)) hm (fun ts' out' G' jo' a1 a2 a3 a4 a5 => ?_) ts [] out false G jo h he (by simpa using hts) (by omega) (by rw [refRow_false]) (by simp)
      refine ih ts' out' G' jo' a1 a2 a3 (by rw [a4]; omega) (by rw [a5, List.length_append]; omega) ?_
      rw [hr, a4, a5, List.append_assoc]

/-- The document's Merge. -/
theorem f13_ok {x : AV} {ts : List (AV × List E)} {bot : Bool} (hx : Sl B H 1 x (ts.map lrow)) (he : LsE B H ts) (hm : ts.length ≤ 1000000) (hT : (tot (ts.map (·.2)) + ts.length) * 48 ≤ maxBytes)
    (hq : ∀ v L, Sl B (H ++ L) 4 v ((mergeF (tot (ts.map (·.2))) (ts.map (·.2)) bot).map E.row) → Q v (H ++ L)) : Cl B 13 [x, .bool bot] H Q := by
  refine f13_in fun n cl hn hcl hH hA => ?_
  subst hcl
  rw [show layParts [] [] = some [] from rfl, ob_some]
  refine slK_in ?_
  have g0 : (H ++ [AObj.arr []])[H.length]? = some (.arr ([] : List (List AV)).flatten) := by rw [get_app0]; rfl
  have hb0 : (([] : List (List AV)).length + (ts.map lrow).length) * 24 ≤ maxBytes := by
    rw [List.length_nil, List.length_map]; omega
  refine op_appendN (rows1 := []) (rows2 := ts.map lrow) g0 (fun r hr => by cases hr) hx.pre hb0 fun k' o L hk hg => ?_
  have e : (H ++ [AObj.arr []]).set H.length o ++ L = H ++ (o :: L) := by rw [set_app0, List.append_assoc]; rfl
  rw [e] at hg ⊢
  rw [ob_some]
  refine slK_in ?_
  rw [List.nil_append] at hg ⊢
  rw [wL_eq, List.length_map]
  have hk' := lt_of_get hg
  have hrs : RS H (H ++ (o :: L) ++ [.arr []]) k' (H ++ (o :: L)).length ts (([] : List E).map E.row) := by
    refine ⟨⟨_, List.append_assoc ..⟩, hk, by rw [List.length_append]; omega, by omega, ?_, by rw [get_app0]; rfl⟩
    rw [← lrow_flat]; exact get_pre hg
  have hv : ∀ j : Nat, AV.slice (.new j) 0 0 4 (some 0) = wV j 4 (([] : List E).map E.row) := fun j => rfl
  rw [hv]
  have hfin : ∀ G jo, (∃ L, G = H ++ L) → G[jo]? = some (.arr ((mergeF (tot (ts.map (·.2))) (ts.map (·.2)) bot).map E.row).flatten) → Q (wV jo 4 ((mergeF (tot (ts.map (·.2))) (ts.map (·.2)) bot).map E.row)) G := fun G jo hp hg' => by
    obtain ⟨L2, rfl⟩ := hp
    exact hq _ L2 (wV_sl hg' (E.rows_len _))
  generalize hres : mergeF (tot (ts.map (·.2))) (ts.map (·.2)) bot = res at hfin
  have h0 : ([] : List E).length + tot (ts.map (·.2)) ≤ tot (ts.map (·.2)) := by rw [List.length_nil]; omega
  exact ref_loop (T := tot (ts.map (·.2))) hm (by omega) hfin (tot (ts.map (·.2))) ts [] _ _ hrs he rfl (Nat.le_refl _) h0 (by rw [hres, List.nil_append])

end
end Go.Am

/- The statements' function small: lists of their own. -/
namespace Go.Am
open Go

section
variable {B : Base} {n : Nat} {H G : Heap} {Q : AV → Heap → Prop}

/-- Behind H: at j the lists, and each list by itself. -/
structure OL (H G : Heap) (j : Nat) (ts : List (AV × List E)) : Prop where
  pre : ∃ L, G = H ++ L
  hj : H.length ≤ j
  gj : G[j]? = some (.arr (ts.map (·.1)))
  el : ∀ t, t ∈ ts → ∃ q, t.1 = wV q 4 (t.2.map E.row) ∧ H.length ≤ q ∧ q ≠ j ∧ G[q]? = some (.arr (t.2.map E.row).flatten)

theorem capN_wV {q es : Nat} {rows : List (List AV)} : capN (wV q es rows) := fun o off len es c e => by
  unfold wV at e
  split at e
  · cases e; rfl
  · cases e
theorem OL.lse {j : Nat} {ts : List (AV × List E)} (h : OL H G j ts) : LsE B G ts := fun t ht => by
  obtain ⟨q, e, _, _, hg⟩ := h.el t ht
  rw [e]
  exact ⟨wV_sl hg (E.rows_len _), capN_wV⟩
theorem OL.sl {j : Nat} {ts : List (AV × List E)} (h : OL H G j ts) : Sl B G 1 (wV j 1 (ts.map lrow)) (ts.map lrow) := wV_sl (by rw [lrow_flat]; exact h.gj) (lrow_len ts)
theorem OL.ls {j : Nat} {ts : List (AV × List E)} (h : OL H G j ts) : Ls B G (wV j 1 (ts.map lrow)) ts := ⟨h.sl, fun t ht => (h.lse t ht).1⟩
theorem OL.grow {j : Nat} {ts : List (AV × List E)} (h : OL H G j ts) (L : List AObj) : OL H (G ++ L) j ts := by
  obtain ⟨⟨L0, rfl⟩, h2, h3, h4⟩ := h
  refine ⟨⟨L0 ++ L, List.append_assoc ..⟩, h2, get_pre h3, fun t ht => ?_⟩
  obtain ⟨q, a, b, c, d⟩ := h4 t ht
  exact ⟨q, a, b, c, get_pre d⟩
/-- What is elsewhere is written. -/
theorem OL.set {j k : Nat} {ts : List (AV × List E)} (h : OL H G j ts) (hk : H.length ≤ k) (hne : k ≠ j) (hn : ∀ t, t ∈ ts → ∀ q, G[q]? = some (.arr (t.2.map E.row).flatten) → t.1 = wV q 4 (t.2.map E.row) → k ≠ q) (o : AObj) : OL H (G.set k o) j ts := by
  obtain ⟨⟨L0, rfl⟩, h2, h3, h4⟩ := h
  refine ⟨set_pre hk, h2, by rw [get_set_ne hne]; exact h3, fun t ht => ?_⟩
  obtain ⟨q, a, b, c, d⟩ := h4 t ht
  exact ⟨q, a, b, c, by rw [get_set_ne (hn t ht q d a)]; exact d⟩

theorem minInts2 (a b : Nat) : minInts (a : Int) [(b : Int)] = ((min a b : Nat) : Int) := by
  simp only [minInts]; split <;> omega

def small (ls : List (List E)) : List (List E) := (ls.take 12).map (·.take 60)

theorem small_loop {x : AV} {ts : List (AV × List E)} (hx : Ls B H x ts) (hq : ∀ j G ts', OL H G j ts' → ts'.map (·.2) = small (ts.map (·.2)) → Q (wV j 1 (ts'.map lrow)) G) :
    ∀ (f i j : Nat) (G : Heap) (ts' : List (AV × List E)), i + f = 12 → i ≤ ts.length → OL H G j ts' → ts'.map (·.2) = ((ts.take i).map (·.2)).map (·.take 60) →
      L10_2 B (Cl B) n x (wV j 1 (ts'.map lrow)) (i : Int) G Q := by
  have fin : ∀ (i j : Nat) (G : Heap) (ts' : List (AV × List E)), i ≤ 12 → (ts.length ≤ i ∨ i = 12) → OL H G j ts' → ts'.map (·.2) = ((ts.take i).map (·.2)).map (·.take 60) → J10_3 B (Cl B) n (wV j 1 (ts'.map lrow)) G Q := fun i j G ts' hi hor h he => by
    refine J10_3_in (tidy_none (hq j G ts' h ?_))
    rw [he]
    unfold small
    rw [← List.map_take]
    rcases hor with hor | rfl
    · rw [List.take_of_length_le hor, List.take_of_length_le (by omega)]
    · rfl
  intro f
  induction f with
  | zero =>
    intro i j G ts' hf hi h he
    refine L10_2_in (ACall.cle B table) ?_
    rw [hx.1.len, ob_some, List.length_map]
    refine bs_dec (fun _ => bs_no (decide_eq_false (by omega)) (fin i j G ts' (by omega) (.inr (by omega)) h he)) fun _ => fin i j G ts' (by omega) (.inr (by omega)) h he
  | succ f ih =>
    intro i j G ts' hf hi h he
    refine L10_2_in (ACall.cle B table) ?_
    rw [hx.1.len, ob_some, List.length_map]
    refine bs_dec (fun hlt => bs_yes (decide_eq_true (by omega)) (J10_1_in ?_)) fun hge => fin i j G ts' (by omega) (.inl (by omega)) h he
    have hlt : i < ts.length := by omega
    obtain ⟨L0, hL0⟩ := h.pre
    have hxG : Ls B G x ts := by rw [hL0]; exact hx.pre
    have h1 : ts[i]? = some ts[i] := List.getElem?_eq_getElem hlt
    have hrow : (ts.map fun t : AV × List E => [t.1])[i]? = some [ts[i].1] := by rw [List.getElem?_map, h1]; rfl
    have hil : i < (ts.map fun t : AV × List E => [t.1]).length := by rw [List.length_map]; exact hlt
    have hpk := (hxG.1.el hrow).peek0 (v := ts[i].1) rfl
    have hlv := hxG.2 _ (List.getElem_mem hlt)
    refine op_idx hxG.1 hil ?_
    rw [hpk, ob_some]
    refine Sl.live hlv _ (op_idx hxG.1 hil ?_)
    rw [hpk, ob_some]
    refine Sl.live hlv _ ?_
    rw [hlv.len, ob_some, List.length_map, show (60 : Int) = ((60 : Nat) : Int) from rfl, minInts2]
    refine op_prefix hlv rfl (by rw [List.length_map]; omega) fun v' hv' _ => ?_
    have htk : (ts[i].2.map E.row).take (min ts[i].2.length 60) = (ts[i].2.take 60).map E.row := by
      rw [List.map_take, Nat.min_comm, ← List.length_map (f := E.row)]
      exact (List.take_eq_take_min ..).symm
    rw [htk] at hv'
    rw [show layParts [] [] = some [] from rfl, ob_some]
    refine slK_in ?_
    have g0 : (G ++ [AObj.arr []])[G.length]? = some (.arr ([] : List (List AV)).flatten) := by rw [get_app0]; rfl
    refine op_appendN (rows1 := []) (rows2 := (ts[i].2.take 60).map E.row) g0 (fun r hr => by cases hr) hv'.pre ?_ fun k' o L hk hg => ⟨rfl, ?_⟩
    · have : maxBytes = 140737488355328 := rfl
      rw [List.length_nil, List.length_map, List.length_take]; omega
    rw [List.nil_append] at hg ⊢
    have e : (G ++ [AObj.arr []]).set G.length o ++ L = G ++ (o :: L) := by rw [set_app0, List.append_assoc]; rfl
    rw [e] at hg ⊢
    have hlay : layParts [.nils] [(0, 1, wV k' 4 ((ts[i].2.take 60).map E.row))] = some [wV k' 4 ((ts[i].2.take 60).map E.row)] := lay_one (sl_cells (wV_sl (B := B) hg (E.rows_len _))) rfl
    rw [hlay, ob_some]
    refine slK_in ⟨rfl, ?_⟩
    have hjl := lt_of_get h.gj
    have hkl := lt_of_get hg
    have hG2 : (G ++ (o :: L) ++ [AObj.arr [wV k' 4 ((ts[i].2.take 60).map E.row)]])[j]? = some (.arr (ts'.map lrow).flatten) := by rw [lrow_flat, List.append_assoc]; exact get_pre h.gj
    have hlen' : ts'.length ≤ 12 := by
      have := congrArg List.length he
      simp only [List.length_map, List.length_take] at this
      omega
    refine op_appendE (rows2 := [[wV k' 4 ((ts[i].2.take 60).map E.row)]]) hG2 (lrow_len ts') (sl_row1 rfl) (by simp) ?_ fun o2 => J10_0_in ?_
    · have : maxBytes = 140737488355328 := rfl
      rw [List.length_map]; simp only [List.length_singleton]; omega
    rw [w64 (by omega)]
    have hrows : ts'.map lrow ++ [[wV k' 4 ((ts[i].2.take 60).map E.row)]] = (ts' ++ [(wV k' 4 ((ts[i].2.take 60).map E.row), ts[i].2.take 60)]).map lrow := by simp [lrow]
    rw [hrows]
    have hset : (G ++ (o :: L) ++ [AObj.arr [wV k' 4 ((ts[i].2.take 60).map E.row)]]).set j o2 = G.set j o2 ++ (o :: L) ++ [AObj.arr [wV k' 4 ((ts[i].2.take 60).map E.row)]] := by
      rw [List.append_assoc, List.set_append_left _ _ hjl, List.append_assoc]
    refine ih (i + 1) _ _ _ (by omega) (by omega) ⟨?_, ?_, ?_, fun t ht => ?_⟩ ?_
    · rw [hset, hL0, List.set_append_right _ _ h.hj, List.append_assoc, List.append_assoc, List.append_assoc]; exact ⟨_, rfl⟩
    · rw [hL0]; simp only [List.length_append]; omega
    · have : (G ++ (o :: L) ++ [AObj.arr [wV k' 4 ((ts[i].2.take 60).map E.row)]]).length = ((G ++ (o :: L) ++ [AObj.arr [wV k' 4 ((ts[i].2.take 60).map E.row)]]).set j o2).length := (List.length_set ..).symm
      rw [this, get_app0, ← lrow_flat]; rfl
    · have low : ∀ q ob, q ≠ j → (G ++ (o :: L))[q]? = some ob → ((G ++ (o :: L) ++ [AObj.arr [wV k' 4 ((ts[i].2.take 60).map E.row)]]).set j o2 ++ [AObj.arr ((ts' ++ [(wV k' 4 ((ts[i].2.take 60).map E.row), ts[i].2.take 60)]).map lrow).flatten])[q]? = some ob := fun q ob hq hob => by
        refine get_pre ?_
        rw [get_set_ne (Ne.symm hq)]; exact get_pre hob
      have hlen2 : (G ++ (o :: L) ++ [AObj.arr [wV k' 4 ((ts[i].2.take 60).map E.row)]]).length = (G ++ (o :: L)).length + 1 := by rw [List.length_append]; rfl
      rcases List.mem_append.1 ht with ht | ht
      · obtain ⟨q, a, b, c, d⟩ := h.el t ht
        have hql := lt_of_get d
        exact ⟨q, a, b, by rw [hlen2, List.length_append]; omega, low q _ c (get_pre d)⟩
      · rw [List.mem_singleton] at ht; subst ht
        exact ⟨k', rfl, by rw [hL0, List.length_append] at hk; omega, by rw [hlen2]; omega, low k' _ (by omega) hg⟩
    · rw [List.map_append, he]
      have h2 : ts.take (i + 1) = ts.take i ++ [ts[i]] := by rw [List.take_add_one, h1]; rfl
      rw [h2, List.map_append, List.map_append]; rfl

theorem f10_ok {x : AV} {ts : List (AV × List E)} (hx : Ls B H x ts) (hq : ∀ j L ts', OL H (H ++ L) j ts' → ts'.map (·.2) = small (ts.map (·.2)) → Q (wV j 1 (ts'.map lrow)) (H ++ L)) : Cl B 10 [x] H Q := by
  refine f10_in fun n cl hn hcl hH hA => ?_
  subst hcl
  rw [show layParts [] [] = some [] from rfl, ob_some]
  refine slK_in ?_
  exact small_loop hx (fun j G ts' h he => by obtain ⟨L, rfl⟩ := h.pre; exact hq j L ts' h he) 12 0 H.length _ [] rfl (Nat.zero_le _) ⟨⟨_, rfl⟩, Nat.le_refl _, by rw [get_app0]; rfl, fun t ht => by cases ht⟩ rfl

end
end Go.Am

/- Split: lists are cut evenly. -/
namespace Go.Am
open Go

def capOK (v : AV) : Prop := ∀ o off len es c, v = .slice o off len es (some c) → len ≤ c
theorem capN.ok {v : AV} (h : capN v) : capOK v := fun o off len es c e => by rw [h o off len es c e]; exact Nat.zero_le _

section
variable {B : Base} {n : Nat} {H G : Heap} {Q : AV → Heap → Prop}

theorem suf_of {es j : Nat} {v : AV} {rows : List (List AV)} (h : Sl B H es v rows) (hc : capOK v) (hj : j ≤ rows.length) : ∃ v', sliceOf es v (j : Int) (rows.length : Int) = some v' ∧ Sl B H es v' (rows.drop j) ∧ capOK v' := by
  obtain ⟨h0, ⟨rfl, rfl⟩ | ⟨o, off, cap, rfl, hcl⟩⟩ := h
  · have : j = 0 := by simpa using hj
    subst this
    exact ⟨.nils, rfl, ⟨fun r hr => by simp at hr, .inl ⟨rfl, rfl⟩⟩, fun o off len es c e => by cases e⟩
  · have h0' : ∀ r, r ∈ rows.drop j → r.length = es := fun r hr => h0 r (List.mem_of_mem_drop hr)
    have hfl : (rows.drop j).flatten = rows.flatten.drop (j * es) := by
      have h1 : rows.flatten = (rows.take j).flatten ++ (rows.drop j).flatten := by rw [← List.flatten_append, List.take_append_drop]
      have h2 : (rows.take j).flatten.length = j * es := by
        rw [flatten_len (fun r hr => h0 r (List.mem_of_mem_take hr)), List.length_take]; congr 1; omega
      rw [h1, ← h2, List.drop_left']
      rfl
    have hmul : j * es ≤ rows.length * es := Nat.mul_le_mul_right es hj
    have hcut : cellsAt B H o (off + j * es) ((rows.drop j).length * es) = some (rows.drop j).flatten := by
      have := cellsAt_sub hcl (j := j * es) (m := (rows.drop j).length * es) (by rw [List.length_drop, Nat.sub_mul]; omega)
      rw [this, hfl]
      congr 1
      rw [List.take_of_length_le]
      rw [List.length_drop, flatten_len h0, List.length_drop, Nat.sub_mul]
      exact Nat.le_refl _
    simp only [sliceOf]
    rw [if_pos ⟨trivial, by omega, by omega, by omega⟩]
    cases cap with
    | none =>
      refine ⟨_, rfl, ⟨h0', .inr ⟨o, off + j * es, none, by simp, hcut⟩⟩, fun o off len es c e => by cases e⟩
    | some c =>
      have hz : rows.length ≤ c := hc _ _ _ _ _ rfl
      refine ⟨_, rfl, ⟨h0', .inr ⟨o, (if c = (j : Int).toNat then off else off + (j : Int).toNat * es), some (c - (j : Int).toNat), by simp, ?_⟩⟩, fun o' off' len es' c' e => by cases e; omega⟩
      by_cases hcj : c = j
      · have hnil : rows.drop j = [] := List.drop_eq_nil_of_le (by omega)
        rw [hnil]
        obtain ⟨cs, a, b, _⟩ := cellsAt_iff'.1 hcl
        refine cellsAt_iff'.2 ⟨cs, a, ?_, by simp⟩
        rw [if_pos (by omega)]; simp; omega
      · rw [if_neg (by omega)]
        simpa using hcut
theorem op_sl2 {K : AV → Heap → Prop} {es len : Nat} {v r : AV} {a : Int} (hl : lenOf v = some len) (hs : sliceOf es v a (len : Int) = some r) (hk : K r G) : aop B E0 G K (.sliceL es (.const v) (some (.const (.int .i64 a))) none none) := by
  simp only [aop, opK, Opd.look, ob_some, hl, optK, pAny_int, hs]; exact hk

/-- The function Clone. -/
theorem f26_ok {x : AV} {l : List E} (hx : Sl B H 4 x (l.map E.row)) (hne : l ≠ []) (hb : l.length * 48 ≤ maxBytes) (hq : ∀ q L, H.length ≤ q → (H ++ L)[q]? = some (.arr (l.map E.row).flatten) → Q (wV q 4 (l.map E.row)) (H ++ L)) : Cl B 26 [x] H Q := by
  refine f26_in fun n cl hn hcl hH hA => ?_
  have hnil : nilOf .slice x = some false := by
    obtain ⟨_, ⟨rfl, e⟩ | ⟨o, off, cap, rfl, _⟩⟩ := hx
    · exact absurd (List.map_eq_nil_iff.1 e) hne
    · rfl
  refine op_nilS false hnil ?_
  rw [pBool_bool, if_neg (by decide), show layParts [] [] = some [] from rfl, ob_some]
  refine slK_in ?_
  have g0 : (H ++ [AObj.arr []])[H.length]? = some (.arr ([] : List (List AV)).flatten) := by rw [get_app0]; rfl
  refine op_appendN (rows1 := []) (rows2 := l.map E.row) g0 (fun r hr => by cases hr) hx.pre (by rw [List.length_nil, List.length_map]; omega) fun k' o L hk hg => tidy_none ?_
  rw [List.nil_append] at hg ⊢
  have e : (H ++ [AObj.arr []]).set H.length o ++ L = H ++ (o :: L) := by rw [set_app0, List.append_assoc]; rfl
  rw [e] at hg ⊢
  exact hq k' _ hk hg

/-! ### Split -/
def cutN (len m : Nat) : Nat := len / m + if len % m > 0 then 1 else 0
def splitF : Nat → List E → List (List E)
  | 0, _ => []
  | m + 1, l => l.take (cutN l.length (m + 1)) :: splitF m (l.drop (cutN l.length (m + 1)))
def manyOf (l : List E) : Nat := (l.length + 63) / 64

/-- Behind H: lists that were appended, each by itself. -/
structure OG (H G : Heap) (v : AV) (ts : List (AV × List E)) : Prop where
  pre : ∃ L, G = H ++ L
  ov : (v = .nils ∧ ts = []) ∨ ∃ j, v = .slice (.new j) 0 ts.length 1 none ∧ H.length ≤ j ∧ G[j]? = some (.arr (ts.map (·.1))) ∧ ∀ t, t ∈ ts → at? t.1 ≠ some j
  el : ∀ t, t ∈ ts → ∃ q, t.1 = wV q 4 (t.2.map E.row) ∧ H.length ≤ q ∧ G[q]? = some (.arr (t.2.map E.row).flatten)
  nd : ts.Pairwise fun a b => ∀ q, at? a.1 = some q → at? b.1 ≠ some q
theorem at_wV {q es : Nat} {rows : List (List AV)} : at? (wV q es rows) = some q := by
  unfold wV; split <;> rfl
theorem OG.sl {v : AV} {ts : List (AV × List E)} (h : OG H G v ts) : Sl B G 1 v (ts.map lrow) := by
  refine ⟨lrow_len ts, ?_⟩
  rcases h.ov with ⟨e1, e2⟩ | ⟨j, e, _, hg, _⟩
  · subst e2; exact .inl ⟨e1, rfl⟩
  · exact .inr ⟨.new j, 0, none, by rw [List.length_map]; exact e, cellsAt_iff'.2 ⟨ts.map (·.1), by simp only [cellsOf, hg], by simp, by rw [lrow_flat, Nat.mul_one, List.length_map, List.drop_zero, List.take_of_length_le (by rw [List.length_map]; exact Nat.le_refl _)]⟩⟩
theorem OG.lse {v : AV} {ts : List (AV × List E)} (h : OG H G v ts) : LsE B G ts := fun t ht => by
  obtain ⟨q, e, _, hg⟩ := h.el t ht
  rw [e]
  exact ⟨wV_sl hg (E.rows_len _), capN_wV⟩
theorem OG.grow {v : AV} {ts : List (AV × List E)} (h : OG H G v ts) (L : List AObj) : OG H (G ++ L) v ts := by
  obtain ⟨⟨L0, rfl⟩, h3, h4, h5⟩ := h
  refine ⟨⟨L0 ++ L, List.append_assoc ..⟩, h3.imp id fun ⟨j, a, b, c, d⟩ => ⟨j, a, b, get_pre c, d⟩, fun t ht => ?_, h5⟩
  obtain ⟨q, a, b, d⟩ := h4 t ht
  exact ⟨q, a, b, get_pre d⟩

/-- A list of its own is appended. -/
theorem op_appOG {K : AV → Heap → Prop} {v : AV} {ts : List (AV × List E)} {q : Nat} {l : List E} (h : OG H G v ts) (hq : H.length ≤ q) (hg : G[q]? = some (.arr (l.map E.row).flatten)) (hn : at? v ≠ some q) (hfr : ∀ t, t ∈ ts → at? t.1 ≠ some q) (hb : (ts.length + 1) * 24 ≤ maxBytes)
    (hk : ∀ v' G', OG H G' v' (ts ++ [(wV q 4 (l.map E.row), l)]) → K v' G') : aop B E0 (G ++ [.arr [wV q 4 (l.map E.row)]]) K (.append 1 24 (.const v) (.const (.slice (.new G.length) 0 1 1 (some 1)))) := by
  have hu : Sl B (G ++ [.arr [wV q 4 (l.map E.row)]]) 1 (.slice (.new G.length) 0 1 1 (some 1)) [[wV q 4 (l.map E.row)]] := sl_row1 rfl
  have hel : elemsOf B (G ++ [.arr [wV q 4 (l.map E.row)]]) (.slice (.new G.length) 0 1 1 (some 1)) = some [wV q 4 (l.map E.row)] := hu.elems
  have hnd : (ts ++ [(wV q 4 (l.map E.row), l)]).Pairwise fun a b => ∀ q, at? a.1 = some q → at? b.1 ≠ some q := by
    rw [List.pairwise_append]
    refine ⟨h.nd, List.pairwise_singleton .., fun a ha b hb p hpa hpb => ?_⟩
    rw [List.mem_singleton] at hb; subst hb
    rw [at_wV] at hpb; cases hpb
    exact hfr a ha hpa
  have hql := lt_of_get hg
  have hlen : (G ++ [AObj.arr [wV q 4 (l.map E.row)]]).length = G.length + 1 := by rw [List.length_append]; rfl
  have h1 := h.grow [.arr [wV q 4 (l.map E.row)]]
  have hHG : H.length ≤ G.length := by obtain ⟨L0, rfl⟩ := h.pre; rw [List.length_append]; omega
  rcases h.ov with ⟨rfl, rfl⟩ | ⟨j, rfl, hj, hgj, hat⟩
  · refine op_app rfl hel rfl (appendTo_nil (by decide) (by simpa using hb)) (hk _ _ ⟨?_, .inr ⟨_, rfl, by rw [hlen]; omega, by rw [get_app0]; rfl, fun t ht => ?_⟩, fun t ht => ?_, hnd⟩)
    · obtain ⟨L0, e⟩ := h1.pre
      rw [e, List.append_assoc]; exact ⟨_, rfl⟩
    · simp at ht; subst ht
      rw [at_wV, hlen]; intro e; cases e; omega
    · simp at ht; subst ht
      exact ⟨q, rfl, hq, get_pre (get_pre hg)⟩
  · have hjl := lt_of_get hgj
    have hc : cellsAt B (G ++ [.arr [wV q 4 (l.map E.row)]]) (.new j) 0 (ts.length * 1) = some (ts.map (·.1)) := cellsAt_iff'.2 ⟨ts.map (·.1), by simp only [cellsOf, get_pre hgj], by simp, by rw [Nat.mul_one, List.drop_zero, List.take_of_length_le (by rw [List.length_map]; exact Nat.le_refl _)]⟩
    refine op_app rfl hel rfl (appendTo_own (by decide) hb hc) (hk _ _ ⟨?_, .inr ⟨(G ++ [AObj.arr [wV q 4 (l.map E.row)]]).length, by simp only [List.length_append, List.length_singleton], by rw [hlen]; omega, ?_, fun t ht => ?_⟩, fun t ht => ?_, hnd⟩)
    · obtain ⟨L0, e⟩ := h1.pre
      rw [e, List.set_append_right _ _ hj, List.append_assoc]; exact ⟨_, rfl⟩
    · have e : (G ++ [AObj.arr [wV q 4 (l.map E.row)]]).length = ((G ++ [AObj.arr [wV q 4 (l.map E.row)]]).set j .gone).length := (List.length_set ..).symm
      rw [e, get_app0, List.map_append]; rfl
    · rw [hlen]
      rcases List.mem_append.1 ht with ht | ht
      · obtain ⟨p, e, _, hp⟩ := h.el t ht
        have := lt_of_get hp
        rw [e, at_wV]; intro e; cases e; omega
      · simp at ht; subst ht
        rw [at_wV]; intro e; cases e; omega
    · rcases List.mem_append.1 ht with ht | ht
      · obtain ⟨p, e, hp, hpg⟩ := h.el t ht
        have hne : j ≠ p := fun e2 => hat t ht (by rw [e, at_wV, e2])
        exact ⟨p, e, hp, get_pre (by rw [get_set_ne hne]; exact get_pre hpg)⟩
      · simp at ht; subst ht
        have hne : j ≠ q := fun e2 => hn (by rw [← e2]; rfl)
        exact ⟨q, rfl, hq, get_pre (by rw [get_set_ne hne]; exact get_pre hg)⟩

theorem cutN_le {len m : Nat} (hm : 0 < m) (hl : m ≤ len ∨ len = 0) : cutN len m ≤ len ∧ (m ≤ len → 0 < cutN len m) := by
  unfold cutN
  have h1 := Nat.div_add_mod len m
  have h2 := Nat.mod_lt len hm
  have h4 : len / m ≤ m * (len / m) := Nat.le_mul_of_pos_left _ hm
  have h5 := Nat.div_le_self len m
  have h6 : m ≤ len → 0 < len / m := fun h => Nat.div_pos h hm
  generalize len / m = d at *
  generalize len % m = r at *
  generalize m * d = md at *
  split
  · exact ⟨by omega, fun _ => by omega⟩
  · exact ⟨by omega, fun h => by have := h6 h; omega⟩
theorem cutN_rest {len m : Nat} (h : m + 1 ≤ len) : m ≤ len - cutN len (m + 1) := by
  unfold cutN
  have h1 := Nat.div_add_mod len (m + 1)
  have h2 := Nat.mod_lt len (Nat.succ_pos m)
  have h3 : 0 < len / (m + 1) := Nat.div_pos h (Nat.succ_pos m)
  generalize len / (m + 1) = d at *
  generalize len % (m + 1) = r at *
  have h5 : m ≤ m * d := Nat.le_mul_of_pos_right _ h3
  have h6 : (m + 1) * d = m * d + d := by rw [Nat.add_mul]; omega
  split <;> omega

theorem split_loop {bigM : Nat} (hbm : (bigM : Int) < 1000000) {res : List (List E)} (hq : ∀ v G ts, OG H G v ts → ts.map (·.2) = res → Q v G) :
    ∀ (m i : Nat) (x v : AV) (l : List E) (G : Heap) (ts : List (AV × List E)), i + m = bigM → m ≤ l.length → l.length ≤ 1000000 → Sl B H 4 x (l.map E.row) → capOK x → OG H G v ts → ts.length = i → ts.map (·.2) ++ splitF m l = res →
      L16_6 B (Cl B) n x (bigM : Int) v (bigM : Int) (i : Int) G Q := by
  intro m
  induction m with
  | zero =>
    intro i x v l G ts hi hl hb hx hc h hts hr
    refine L16_6_in (ACall.cle B table) (ib_lt (J16_5_in ?_))
    rw [decide_eq_false (by omega), pBool_bool, if_neg (by decide)]
    refine J16_7_in (tidy_none (hq v G ts h ?_))
    rw [← hr, splitF, List.append_nil]
  | succ m ih =>
    intro i x v l G ts hi hl hb hx hc h hts hr
    obtain ⟨L0, hL0⟩ := h.pre
    have hxG : Sl B G 4 x (l.map E.row) := by rw [hL0]; exact hx.pre
    have hlen : lenOf x = some l.length := by have := hx.len; rwa [List.length_map] at this
    refine L16_6_in (ACall.cle B table) (ib_lt (J16_5_in ?_))
    rw [decide_eq_true (by omega), pBool_bool, if_pos rfl]
    refine J16_3_in ?_
    rw [hlen, ob_some]
    have ew : IntKind.i64.wrap ((bigM : Int) - (i : Int)) = ((m + 1 : Nat) : Int) := by rw [w64 (by omega)]; omega
    rw [ew, if_neg (by omega)]
    have hdl : l.length / (m + 1) ≤ l.length := Nat.div_le_self ..
    have hd0 : (0 : Int) ≤ ((l.length / (m + 1) : Nat) : Int) := Int.natCast_nonneg _
    have hd1 : ((l.length / (m + 1) : Nat) : Int) ≤ (l.length : Int) := Int.ofNat_le.2 hdl
    have ed : IntKind.i64.wrap (Int.tdiv (l.length : Int) ((m + 1 : Nat) : Int)) = ((l.length / (m + 1) : Nat) : Int) := by
      rw [show Int.tdiv (l.length : Int) ((m + 1 : Nat) : Int) = ((l.length / (m + 1) : Nat) : Int) from rfl, w64 (by omega)]
    rw [ed]
    refine J16_2_in ?_
    rw [hlen, ob_some, ew, if_neg (by omega)]
    have em : Int.tmod (l.length : Int) ((m + 1 : Nat) : Int) = ((l.length % (m + 1) : Nat) : Int) := rfl
    rw [em]
    have hcut : cutN l.length (m + 1) ≤ l.length ∧ (m + 1 ≤ l.length → 0 < cutN l.length (m + 1)) := cutN_le (Nat.succ_pos m) (.inl hl : m + 1 ≤ l.length ∨ l.length = 0)
    have go : ∀ a : Int, a = (cutN l.length (m + 1) : Int) → J16_1 B (Cl B) n x (bigM : Int) v a (bigM : Int) (i : Int) G Q := fun a ha => by
      subst ha
      refine J16_1_in (op_prefix hxG rfl (by rw [List.length_map]; exact hcut.1) fun v7 hv7 _ => ?_)
      rw [← List.map_take] at hv7
      have hbig : maxBytes = 140737488355328 := rfl
      have htl : (l.take (cutN l.length (m + 1))).length ≤ 1000000 := by rw [List.length_take]; omega
      refine f26_ok hv7 ?_ (by omega) fun q L hq' hg => wV_live _ _ _ _ ?_
      · intro e
        have := congrArg List.length e
        rw [List.length_take, List.length_nil] at this
        have := hcut.2 hl
        omega
      rw [show layParts [.nils] [(0, 1, wV q 4 ((l.take (cutN l.length (m + 1))).map E.row))] = some [wV q 4 ((l.take (cutN l.length (m + 1))).map E.row)] from lay_one (sl_cells (wV_sl (B := B) hg (E.rows_len _))) rfl, ob_some]
      refine slK_in ?_
      have hHG : H.length ≤ G.length := by rw [hL0, List.length_append]; omega
      refine op_appOG (h.grow L) (by omega) hg ?_ (fun t ht e => ?_) (by omega) fun v' G' h' => J16_0_in ?_
      · rcases h.ov with ⟨e, _⟩ | ⟨j, e, _, hgj, _⟩
        · rw [e]; intro e2; cases e2
        · rw [e]; intro e2; cases e2
          have := lt_of_get hgj; omega
      · obtain ⟨p, e1, _, hpg⟩ := h.el t ht
        have := lt_of_get hpg
        rw [e1, at_wV] at e; cases e; omega
      obtain ⟨x', s1, s2, s3⟩ := suf_of hx hc (j := cutN l.length (m + 1)) (by rw [List.length_map]; exact hcut.1)
      rw [← List.map_drop] at s2
      rw [List.length_map] at s1
      refine op_sl2 hlen s1 (J16_4_in ?_)
      rw [w64 (by omega)]
      refine ih (i + 1) x' v' _ G' _ (by omega) (by rw [List.length_drop]; exact cutN_rest hl) (by rw [List.length_drop]; omega) s2 s3 h' (by rw [List.length_append, hts]; rfl) ?_
      rw [← hr, splitF, List.map_append]; simp
    have hcn : (cutN l.length (m + 1) : Int) = (l.length / (m + 1) : Nat) + (if l.length % (m + 1) > 0 then (1 : Nat) else 0 : Nat) := by unfold cutN; omega
    refine bs_dec (fun hp => id (by
      rw [w64 (by omega)]
      exact go _ (by rw [hcn, if_pos (by omega)]; rfl))) fun hp => go _ (by rw [hcn, if_neg (by omega)]; simp)

theorem f16_ok {x : AV} {l : List E} (hx : Sl B H 4 x (l.map E.row)) (hc : capOK x) (hb : l.length ≤ 1000000) (hq : ∀ v L ts, OG H (H ++ L) v ts → ts.map (·.2) = splitF (manyOf l) l → Q v (H ++ L)) : Cl B 16 [x] H Q := by
  refine f16_in fun n cl hn hcl hH hA => J16_10_in ?_
  subst hcl
  have hlen : lenOf x = some l.length := by have := hx.len; rwa [List.length_map] at this
  rw [hlen, ob_some]
  cases l with
  | nil =>
    refine bs_yes rfl (tidy_none ?_)
    have := hq .nils [] [] ⟨⟨[], rfl⟩, .inl ⟨rfl, rfl⟩, fun t ht => (by cases ht), .nil⟩ rfl
    rwa [List.append_nil] at this
  | cons e r =>
    refine bs_no (by simp; omega) (J16_9_in ?_)
    rw [hlen, ob_some, if_neg (by decide)]
    have hlr : (e :: r).length = r.length + 1 := rfl
    have ew : IntKind.i64.wrap (Int.tdiv (IntKind.i64.wrap (IntKind.i64.wrap (((e :: r).length : Int) + 64) - 1)) 64) = (manyOf (e :: r) : Int) := by
      rw [w64 (n := ((e :: r).length : Int) + 64) (by omega), w64 (n := ((e :: r).length : Int) + 64 - 1) (by omega)]
      have : ((e :: r).length : Int) + 64 - 1 = (((e :: r).length + 63 : Nat) : Int) := by omega
      rw [this, show Int.tdiv (((e :: r).length + 63 : Nat) : Int) 64 = ((((e :: r).length + 63) / 64 : Nat) : Int) from rfl, w64 (by omega)]
      rfl
    rw [ew]
    refine J16_8_in ?_
    have hm : manyOf (e :: r) ≤ (e :: r).length := by unfold manyOf; omega
    have hm2 : (manyOf (e :: r) : Int) < 1000000 := by unfold manyOf; omega
    refine split_loop (res := splitF (manyOf (e :: r)) (e :: r)) hm2 (fun v G ts h he => by obtain ⟨L, rfl⟩ := h.pre; exact hq v L ts h he) (manyOf (e :: r)) 0 x .nils (e :: r) H [] (by omega) hm hb hx hc ⟨⟨[], (List.append_nil _).symm⟩, .inl ⟨rfl, rfl⟩, fun t ht => (by cases ht), .nil⟩ rfl rfl

end
end Go.Am

/- The statements' function shown: it holds. -/
namespace Go.Am
open Go

section
variable {B : Base} {n : Nat} {H G : Heap} {Q : AV → Heap → Prop}

def eA : E := ⟨[97], [49], false, 1⟩
def eB : E := ⟨[98], [50], false, 4⟩
def eB2 : E := ⟨[98], [49], false, 2⟩
def eC : E := ⟨[99], [], true, 3⟩
def e0 : E := ⟨[], [], false, 0⟩
theorem shown1 : mergeF (tot [[eB], [eA, eB2, eC]]) [[eB], [eA, eB2, eC]] false = [eA, eB, eC] := rfl
theorem shown2 : mergeF (tot [[eB], [eA, eB2, eC]]) [[eB], [eA, eB2, eC]] true = [eA, eB] := rfl
theorem shown3 : (splitF (manyOf (List.replicate 65 e0)) (List.replicate 65 e0)).map List.length = [33, 32] := by decide +kernel

theorem op_aeq {K : AV → Heap → Prop} {a b : E} (hk : K (.bool (decide (a = b))) G) : aop B E0 G K (.aeq false 4 [(0, .str), (1, .str), (2, .bool), (3, (.int .i64))] (.const (.agg a.row)) (.const (.agg b.row))) := by
  simp only [aop, opK, Opd.look, ob_some, ent_eq]
  rw [if_pos ⟨rfl, rfl⟩]
  exact bool_split (K := fun v => K v G) hk

theorem f9_ok (hq : ∀ L, Q (.bool true) (H ++ L)) : Cl B 9 [] H Q := by
  refine f9_in fun n cl hn hcl hH hA => J9_7_in ?_
  subst hcl
  rw [show layParts [(.str []), (.str []), (.bool false), (.int .i64 0)] [(0, 1, (.str [97])), (1, 1, (.str [49])), (3, 1, .int .i64 (1))] = some eA.row from rfl, ob_some]
  refine op_alloc (op_st_last rfl rfl (J9_6_in ?_))
  rw [show layParts [(.str []), (.str []), (.bool false), (.int .i64 0)] [(0, 1, (.str [98])), (1, 1, (.str [50])), (3, 1, .int .i64 (4))] = some eB.row from rfl, ob_some]
  refine op_alloc (op_st_last rfl rfl (J9_5_in ?_))
  rw [show layParts [(.str []), (.str []), (.bool false), (.int .i64 0)] [(0, 1, (.str [99])), (2, 1, .bool true), (3, 1, .int .i64 (3))] = some eC.row from rfl, ob_some]
  refine op_alloc (op_st_last rfl rfl ?_)
  -- the three stand, whatever comes
  have main : ∀ (G : Heap) (a b c : Nat), (∃ L, G = H ++ L) → G[a]? = some (.var eA.row) → G[b]? = some (.var eB.row) → G[c]? = some (.var eC.row) → J9_4 B (Cl B) n (pt a) (pt b) (pt c) G Q := fun G a b c hp ha hb hc => by
    refine J9_4_in ?_
    rw [show peekN B G 4 (pt b) = some eB.row from peekVN hb rfl, ob_some]
    rw [show layParts [(.str []), (.str []), (.bool false), (.int .i64 0)] [(0, 4, .agg eB.row)] = some eB.row from rfl, ob_some]
    refine slK_in ?_
    have ha1 := get_pre (L := [AObj.arr eB.row]) ha
    have hb1 := get_pre (L := [AObj.arr eB.row]) hb
    have hc1 := get_pre (L := [AObj.arr eB.row]) hc
    have s1 : Sl B (G ++ [.arr eB.row]) 4 (.slice (.new G.length) 0 1 4 (some 1)) [eB.row] := sl_row1 rfl
    rw [show peekN B (G ++ [AObj.arr eB.row]) 4 (pt a) = some eA.row from peekVN ha1 rfl, ob_some]
    rw [show layParts [(.str []), (.str []), (.bool false), (.int .i64 0)] [(0, 1, (.str [98])), (1, 1, (.str [49])), (3, 1, .int .i64 (2))] = some eB2.row from rfl, ob_some]
    rw [show peekN B (G ++ [AObj.arr eB.row]) 4 (pt c) = some eC.row from peekVN hc1 rfl, ob_some]
    rw [show layParts [(.str []), (.str []), (.bool false), (.int .i64 0), (.str []), (.str []), (.bool false), (.int .i64 0), (.str []), (.str []), (.bool false), (.int .i64 0)] [(0, 4, .agg eA.row), (4, 4, .agg eB2.row), (8, 4, .agg eC.row)] = some ([eA, eB2, eC].map E.row).flatten from rfl, ob_some]
    refine slK_in ?_
    generalize hv1 : AV.slice (.new G.length) 0 1 4 (some 1) = v1 at s1 ⊢
    generalize hG1 : G ++ [AObj.arr eB.row] = G1 at s1 ha1 hb1 hc1 ⊢
    have hp1 : ∃ L, G1 = H ++ L := by obtain ⟨L, rfl⟩ := hp; rw [← hG1, List.append_assoc]; exact ⟨_, rfl⟩
    have s2 : Sl B (G1 ++ [.arr ([eA, eB2, eC].map E.row).flatten]) 4 (.slice (.new G1.length) 0 3 4 (some 3)) ([eA, eB2, eC].map E.row) := sl_rows rfl rfl (E.rows_len _)
    have s1' := s1.pre (L := [.arr ([eA, eB2, eC].map E.row).flatten])
    have ha2 := get_pre (L := [AObj.arr ([eA, eB2, eC].map E.row).flatten]) ha1
    have hb2 := get_pre (L := [AObj.arr ([eA, eB2, eC].map E.row).flatten]) hb1
    have hc2 := get_pre (L := [AObj.arr ([eA, eB2, eC].map E.row).flatten]) hc1
    generalize hv2 : AV.slice (.new G1.length) 0 3 4 (some 3) = v2 at s2 ⊢
    have hp2 : ∃ L, G1 ++ [.arr ([eA, eB2, eC].map E.row).flatten] = H ++ L := by obtain ⟨L, rfl⟩ := hp1; rw [List.append_assoc]; exact ⟨_, rfl⟩
    generalize hG2 : G1 ++ [AObj.arr ([eA, eB2, eC].map E.row).flatten] = G2 at s1' s2 ha2 hb2 hc2 hp2 ⊢
    have hlay : layParts [.nils, .nils] [(0, 1, v1), (1, 1, v2)] = some [v1, v2] := by
      simp only [layParts, sl_cells s1, sl_cells s2]; rfl
    rw [hlay, ob_some]
    refine slK_in (J9_3_in ?_)
    have s3 : Sl B (G2 ++ [.arr [v1, v2]]) 1 (.slice (.new G2.length) 0 2 1 (some 2)) [[v1], [v2]] := sl_rows rfl rfl (fun r hr => by simp at hr; rcases hr with rfl | rfl <;> rfl)
    have hx : Ls B (G2 ++ [.arr [v1, v2]]) (.slice (.new G2.length) 0 2 1 (some 2)) [(v1, [eB]), (v2, [eA, eB2, eC])] := ⟨s3, fun t ht => by
      simp at ht; rcases ht with rfl | rfl
      · exact s1'.pre
      · exact s2.pre⟩
    have ha3 := get_pre (L := [AObj.arr [v1, v2]]) ha2
    have hb3 := get_pre (L := [AObj.arr [v1, v2]]) hb2
    have hc3 := get_pre (L := [AObj.arr [v1, v2]]) hc2
    have hp3 : ∃ L, G2 ++ [.arr [v1, v2]] = H ++ L := by obtain ⟨L, rfl⟩ := hp2; rw [List.append_assoc]; exact ⟨_, rfl⟩
    generalize AV.slice (.new G2.length) 0 2 1 (some 2) = xv at hx ⊢
    generalize G2 ++ [AObj.arr [v1, v2]] = G3 at hx ha3 hb3 hc3 hp3 ⊢
    refine f11_ok hx (by show 2 * 8 ≤ maxBytes; decide) (by show 4 * 48 ≤ maxBytes; decide) fun vl L4 g4 => ?_
    have s4 : Sl B (G3 ++ L4) 4 vl ([eA, eB, eC].map E.row) := g4.sl
    refine Sl.live s4 _ (J9_2_in ?_)
    have hx4 := hx.pre (L := L4)
    have ha4 := get_pre (L := L4) ha3
    have hb4 := get_pre (L := L4) hb3
    have hc4 := get_pre (L := L4) hc3
    have hp4 : ∃ L, G3 ++ L4 = H ++ L := by obtain ⟨L, rfl⟩ := hp3; rw [List.append_assoc]; exact ⟨_, rfl⟩
    generalize G3 ++ L4 = G4 at hx4 s4 ha4 hb4 hc4 hp4 ⊢
    refine f11_ok hx4 (by show 2 * 8 ≤ maxBytes; decide) (by show 4 * 48 ≤ maxBytes; decide) fun vm L5 g5 => ?_
    have s5 : Sl B (G4 ++ L5) 4 vm ([eA, eB].map E.row) := g5.sl
    refine Sl.live s5 _ (J9_1_in ?_)
    have s4' := s4.pre (L := L5)
    have ha5 := get_pre (L := L5) ha4
    have hb5 := get_pre (L := L5) hb4
    have hc5 := get_pre (L := L5) hc4
    have hp5 : ∃ L, G4 ++ L5 = H ++ L := by obtain ⟨L, rfl⟩ := hp4; rw [List.append_assoc]; exact ⟨_, rfl⟩
    generalize G4 ++ L5 = G5 at s4' s5 ha5 hb5 hc5 hp5 ⊢
    refine op_make (m := 65) rfl (by decide) (by decide) ?_
    have s6 : Sl B (G5 ++ [.arr (List.replicate 65 [(.str []), (.str []), (.bool false), (.int .i64 0)]).flatten]) 4 (.slice (.new G5.length) 0 65 4 (some 65)) ((List.replicate 65 e0).map E.row) := by
      rw [List.map_replicate]
      exact sl_rows (by rw [List.length_replicate]) rfl (fun r hr => by rw [(List.mem_replicate.1 hr).2]; rfl)
    have s4'' := s4'.pre (L := [.arr (List.replicate 65 [(.str []), (.str []), (.bool false), (.int .i64 0)]).flatten])
    have s5' := s5.pre (L := [.arr (List.replicate 65 [(.str []), (.str []), (.bool false), (.int .i64 0)]).flatten])
    have ha6 := get_pre (L := [AObj.arr (List.replicate 65 [(.str []), (.str []), (.bool false), (.int .i64 0)]).flatten]) ha5
    have hb6 := get_pre (L := [AObj.arr (List.replicate 65 [(.str []), (.str []), (.bool false), (.int .i64 0)]).flatten]) hb5
    have hc6 := get_pre (L := [AObj.arr (List.replicate 65 [(.str []), (.str []), (.bool false), (.int .i64 0)]).flatten]) hc5
    have hp6 : ∃ L, G5 ++ [.arr (List.replicate 65 [(.str []), (.str []), (.bool false), (.int .i64 0)]).flatten] = H ++ L := by obtain ⟨L, rfl⟩ := hp5; rw [List.append_assoc]; exact ⟨_, rfl⟩
    have hcap : capOK (.slice (.new G5.length) 0 65 4 (some 65)) := fun o off len es c e => by cases e; exact Nat.le_refl _
    generalize AV.slice (.new G5.length) 0 65 4 (some 65) = sv at s6 hcap ⊢
    generalize G5 ++ [AObj.arr (List.replicate 65 [(.str []), (.str []), (.bool false), (.int .i64 0)]).flatten] = G6 at s4'' s5' s6 ha6 hb6 hc6 hp6 ⊢
    refine f16_ok s6 hcap (by rw [List.length_replicate]; decide) fun vs L7 ts7 o7 e7 => ?_
    have s7 : Sl B (G6 ++ L7) 1 vs (ts7.map lrow) := o7.sl
    have t7 := o7.lse (B := B)
    refine Sl.live s7 _ (J9_0_in ?_)
    unfold F9_0
    have h7 := shown3
    rw [← e7, List.map_map] at h7
    have s47 := s4''.pre (L := L7)
    have s57 := s5'.pre (L := L7)
    have ha7 := get_pre (L := L7) ha6
    have hb7 := get_pre (L := L7) hb6
    have hc7 := get_pre (L := L7) hc6
    have hp7 : ∃ L, G6 ++ L7 = H ++ L := by obtain ⟨L, rfl⟩ := hp6; rw [List.append_assoc]; exact ⟨_, rfl⟩
    generalize G6 ++ L7 = G7 at s7 t7 s47 s57 ha7 hb7 hc7 hp7 ⊢
    obtain ⟨t0, t1, rfl⟩ : ∃ t0 t1, ts7 = [t0, t1] := by
      match ts7, h7 with
      | [], h => simp at h
      | [_], h => simp at h
      | [a, b], _ => exact ⟨a, b, rfl⟩
      | _ :: _ :: _ :: _, h => simp at h
    have l0 : t0.2.length = 33 := by simpa using congrArg (fun l => l.getD 0 0) h7
    have l1 : t1.2.length = 32 := by simpa using congrArg (fun l => l.getD 1 0) h7
    rw [s47.len, ob_some]
    refine ib_eq_yes rfl ?_
    rw [pGuard_bool]
    have rw_e : ∀ {v : AV} {l : List E} {i p : Nat} {e : E} {K : AV → Heap → Prop}, Sl B G7 4 v (l.map E.row) → l[i]? = some e → G7[p]? = some (.var e.row) → K (.bool true) G7 →
        aop B E0 G7 (fun v43 _ => ob (peekN B G7 4 v43) fun c44 => ob (peekN B G7 4 (pt p)) fun c45 => aop B E0 G7 K (.aeq false 4 [(0, .str), (1, .str), (2, .bool), (3, (.int .i64))] (.const (.agg c44)) (.const (.agg c45)))) (.indexPtr 4 (.const v) (.const (.int .i64 (i : Int)))) := fun {v l i p e K} hs hi hp hk => by
      have hr : (l.map E.row)[i]? = some e.row := by rw [List.getElem?_map, hi]; rfl
      refine op_idx hs (by rw [List.length_map]; exact (List.getElem?_eq_some_iff.1 hi).1) ?_
      rw [(hs.el hr).peekN (n := 4) rfl, ob_some, show peekN B G7 4 (pt p) = some e.row from peekVN hp rfl, ob_some]
      exact op_aeq (by rw [decide_eq_true rfl]; exact hk)
    refine bs_yes rfl (rw_e (i := 0) s47 rfl ha7 ?_)
    rw [pGuard_bool]
    refine bs_yes rfl (rw_e (i := 1) s47 rfl hb7 ?_)
    rw [pGuard_bool]
    refine bs_yes rfl (rw_e (i := 2) s47 rfl hc7 ?_)
    rw [pGuard_bool]
    refine bs_yes rfl ?_
    rw [s57.len, ob_some]
    refine ib_eq_yes rfl ?_
    rw [pGuard_bool]
    refine bs_yes rfl (rw_e (i := 1) s57 rfl hb7 ?_)
    rw [pGuard_bool]
    refine bs_yes rfl ?_
    rw [s7.len, ob_some]
    refine ib_eq_yes rfl ?_
    rw [pGuard_bool]
    refine bs_yes rfl (op_idx' (i := 0) s7 rfl (by simp) ?_)
    have m0 := (t7 t0 (by simp)).1
    have m1 := (t7 t1 (by simp)).1
    rw [(s7.el (i := 0) (row := [t0.1]) rfl).peek0 rfl, ob_some]
    refine Sl.live m0 _ ?_
    rw [m0.len, ob_some]
    refine ib_eq_yes (by rw [List.length_map, l0]; rfl) ?_
    rw [pGuard_bool]
    refine bs_yes rfl (op_idx' (i := 1) s7 rfl (by simp) ?_)
    rw [(s7.el (i := 1) (row := [t1.1]) rfl).peek0 rfl, ob_some]
    refine Sl.live m1 _ ?_
    rw [m1.len, ob_some]
    refine ib_eq_yes (by rw [List.length_map, l1]; rfl) ?_
    rw [pGuard_bool]
    refine bs_yes rfl (f16_ok (l := []) ⟨fun r hr => by simp at hr, .inl ⟨rfl, rfl⟩⟩ (fun o off len es c e => by cases e) (by decide) fun v8 L8 ts8 o8 e8 => ?_)
    have s8 : Sl B (G7 ++ L8) 1 v8 (ts8.map lrow) := o8.sl
    refine Sl.live s8 _ ?_
    rw [s8.len, ob_some]
    have h8 : ts8 = [] := by
      have : splitF (manyOf []) [] = [] := rfl
      rw [this] at e8
      exact List.map_eq_nil_iff.1 e8
    subst h8
    refine ib_eq_yes rfl (tidy_none ?_)
    obtain ⟨L, rfl⟩ := hp7
    rw [List.append_assoc]
    exact hq _
  refine main _ _ _ _ ?_ ?_ ?_ ?_
  · rw [List.append_assoc, List.append_assoc]; exact ⟨_, rfl⟩
  · exact get_pre (get_pre (by rw [get_app0]; rfl))
  · exact get_pre (by rw [get_app0]; rfl)
  · rw [get_app0]; rfl

end
end Go.Am
