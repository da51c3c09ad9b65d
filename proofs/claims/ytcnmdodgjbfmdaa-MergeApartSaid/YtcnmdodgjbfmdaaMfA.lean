/- How long the statements' small lists are. -/
import Derived.Test.YtcnmdodgjbfmdaaMrA
import Derived.Test.YtcnmdodgjbfmdaaAgX9
namespace Go.Am
open Go

theorem tot_bound {k : Nat} : ∀ {ls : List (List E)}, (∀ l, l ∈ ls → l.length ≤ k) → tot ls ≤ ls.length * k
  | [], _ => by simp [tot]
  | l :: r, h => by
    rw [tot_cons, List.length_cons, Nat.add_mul, Nat.one_mul]
    have h1 := h l (List.mem_cons_self ..)
    have h2 := tot_bound (ls := r) fun x hx => h x (List.mem_cons_of_mem _ hx)
    omega
theorem small_len (ls : List (List E)) : (small ls).length ≤ 12 := by
  unfold small; rw [List.length_map, List.length_take]; omega
theorem small_tot (ls : List (List E)) : tot (small ls) ≤ 720 := by
  have h := tot_bound (k := 60) (ls := small ls) fun l hl => by
    unfold small at hl
    obtain ⟨x, _, rfl⟩ := List.mem_map.1 hl
    rw [List.length_take]; omega
  have := small_len ls
  omega
theorem small_get {ls : List (List E)} {i : Nat} {l : List E} (h : (small ls)[i]? = some l) : ∃ l0, ls[i]? = some l0 ∧ l = l0.take 60 := by
  unfold small at h
  rw [List.getElem?_map, Option.map_eq_some_iff] at h
  obtain ⟨l0, h1, rfl⟩ := h
  rw [List.getElem?_take] at h1
  split at h1
  · exact ⟨l0, h1, rfl⟩
  · cases h1

end Go.Am

/- The document's Find and Sorted. -/
namespace Go.Am
open Go

def findC (key : List UInt8) : List E → Nat
  | [] => 0
  | e :: r => (if sLess e.key key = true then 1 else 0) + findC key r
def findB (key : List UInt8) : List E → Bool
  | [] => false
  | e :: r => e.key == key || findB key r
theorem findC_cons (key : List UInt8) (e : E) (r : List E) : findC key (e :: r) = (if sLess e.key key = true then 1 else 0) + findC key r := rfl
theorem findC_le (key : List UInt8) : ∀ l, findC key l ≤ l.length
  | [] => Nat.le_refl _
  | e :: r => by
    have := findC_le key r
    unfold findC; rw [List.length_cons]; split <;> omega
theorem findC_lt {key : List UInt8} : ∀ {l : List E}, findB key l = true → findC key l < l.length
  | [], h => by cases h
  | e :: r, h => by
    unfold findB at h
    unfold findC
    rw [List.length_cons]
    rcases Bool.or_eq_true _ _ ▸ h with h | h
    · have hk : e.key = key := by simpa using h
      have := findC_le key r
      rw [hk, sLess_irrefl, if_neg (by decide)]; omega
    · have := findC_lt (l := r) h
      split <;> omega

section
variable {B : Base} {n : Nat} {H G : Heap} {Q : AV → Heap → Prop}

theorem f15_ok {x : AV} {l : List E} {key : List UInt8} (hs : Sl B G 4 x (l.map E.row)) (hb : (l.length : Int) < 4611686018427387904) (hq : Q (.tuple [.int .i64 (findC key l : Int), .bool (findB key l)]) G) : Cl B 15 [x, .str key] G Q := by
  refine f15_in fun n cl hn hcl hH hA => ?_
  subst hcl
  have go : ∀ (r : List E) (i m : Nat) (b : Bool), l.drop i = r → m ≤ i → m + findC key r = findC key l → (b || findB key r) = findB key l → L15_3 B (Cl B) n x key (m : Int) (.bool b) (i : Int) G Q := by
    intro r
    induction r with
    | nil =>
      intro i m b hd hm h1 h2
      refine L15_3_in (ACall.cle B table) ?_
      rw [hs.len, ob_some, List.length_map]
      have := drop_nil hd
      refine bs_no (decide_eq_false (by omega)) (J15_4_in (tidy_none ?_))
      simp only [findC, findB, Nat.add_zero, Bool.or_false] at h1 h2
      rw [← h1, ← h2] at hq
      exact hq
    | cons e r ih =>
      intro i m b hd hm h1 h2
      obtain ⟨g1, g2, g3⟩ := drop_cons hd
      refine L15_3_in (ACall.cle B table) ?_
      rw [hs.len, ob_some, List.length_map]
      refine bs_yes (decide_eq_true (by omega)) (J15_2_in ?_)
      have hr : (l.map E.row)[i]? = some e.row := by rw [List.getElem?_map, g1]; rfl
      have hil : i < (l.map E.row).length := by rw [List.length_map]; exact g2
      have hkey := (hs.el hr).fld (off := 0) (v := .str e.key) rfl
      refine op_idx hs hil (op_fld (hs.el hr) ?_)
      rw [hkey, ob_some, pStr_str]
      have next : ∀ m' : Nat, m' ≤ i + 1 → m' + findC key r = findC key l → J15_0 B (Cl B) n x key (m' : Int) (.bool b) (i : Int) G Q := fun m' hm' h1' => by
        refine J15_0_in ?_
        rw [pGuard_bool]
        have last : ∀ b' : Bool, (b' || findB key r) = findB key l → J15_1 B (Cl B) n x key (m' : Int) (.bool b') (i : Int) G Q := fun b' h2' => by
          refine J15_1_in ?_
          rw [w64 (by omega)]
          exact ih (i + 1) m' b' g3 hm' h1' h2'
        refine bs_iff.2 ⟨fun hb' => last true ?_, fun hb' => op_idx hs hil (op_fld (hs.el hr) ?_)⟩
        · rw [← h2, hb']; simp
        · rw [hkey, ob_some, pStr_str]
          refine sb_eqq (last _ ?_)
          rw [← h2, hb', findB]; simp
      rw [findC_cons] at h1
      refine bs_iff.2 ⟨fun hl => ?_, fun hl => ?_⟩
      · rw [w64 (by omega)]
        rw [if_pos hl] at h1
        exact next (m + 1) (by omega) (by omega)
      · rw [if_neg (by rw [hl]; decide)] at h1
        exact next m (by omega) (by omega)
  exact go l 0 0 false rfl (Nat.le_refl _) (Nat.zero_add _) (by simp)

/-- Keys that rise. -/
def sortedF (l : List E) : Bool :=
  match l with
  | [] => true
  | [_] => true
  | a :: b :: r => sLess a.key b.key && sortedF (b :: r)

theorem f18_ok {x : AV} {l : List E} (hs : Sl B G 4 x (l.map E.row)) (hb : (l.length : Int) < 4611686018427387904) (hq : Q (.bool (sortedF l)) G) : Cl B 18 [x] G Q := by
  refine f18_in fun n cl hn hcl hH hA => ?_
  subst hcl
  have go : ∀ (r : List E) (a : E) (i : Nat), l.drop i = a :: r → sortedF (a :: r) = sortedF l → L18_0 B (Cl B) n x ((i : Int) + 1) G Q := by
    intro r
    induction r with
    | nil =>
      intro a i hd h1
      obtain ⟨g1, g2, g3⟩ := drop_cons hd
      have := drop_nil g3
      refine L18_0_in (ACall.cle B table) ?_
      rw [hs.len, ob_some, List.length_map]
      refine bs_no (decide_eq_false (by omega)) (J18_1_in (tidy_none ?_))
      rw [← h1] at hq; exact hq
    | cons b r ih =>
      intro a i hd h1
      obtain ⟨g1, g2, g3⟩ := drop_cons hd
      obtain ⟨k1, k2, k3⟩ := drop_cons g3
      refine L18_0_in (ACall.cle B table) ?_
      rw [hs.len, ob_some, List.length_map]
      refine bs_yes (decide_eq_true (by omega)) ?_
      have hr1 : (l.map E.row)[i]? = some a.row := by rw [List.getElem?_map, g1]; rfl
      have hr2 : (l.map E.row)[i + 1]? = some b.row := by rw [List.getElem?_map, k1]; rfl
      refine op_idx' (i := i) hs (by rw [w64 (by omega)]; omega) (by rw [List.length_map]; exact g2) (op_fld (hs.el hr1) ?_)
      rw [(hs.el hr1).fld (off := 0) (v := .str a.key) rfl, ob_some, pStr_str]
      refine op_idx' (i := i + 1) hs (by omega) (by rw [List.length_map]; exact k2) (op_fld (hs.el hr2) ?_)
      rw [(hs.el hr2).fld (off := 0) (v := .str b.key) rfl, ob_some, pStr_str]
      refine sb_ge ?_
      rw [pBool_bool]
      split
      · rename_i h
        refine tidy_none ?_
        have : sortedF l = false := by
          rw [← h1, sortedF]
          have h : sLess a.key b.key = false := by simpa using h
          rw [h]; rfl
        rw [this] at hq; exact hq
      · rename_i h
        have h : sLess a.key b.key = true := by simpa using h
        rw [w64 (by omega)]
        have := ih b (i + 1) g3 (by rw [← h1]; conv => rhs; rw [sortedF, h, Bool.true_and])
        have e : ((i + 1 : Nat) : Int) + 1 = (i : Int) + 1 + 1 := by omega
        rw [e] at this
        exact this
  cases l with
  | nil =>
    refine L18_0_in (ACall.cle B table) ?_
    rw [hs.len, ob_some]
    exact bs_no (by decide) (J18_1_in (tidy_none hq))
  | cons a r =>
    have := go r a 0 rfl rfl
    exact this

end
end Go.Am

/- The document's Fold: an entry is put into its place. -/
namespace Go.Am
open Go

section
variable {B : Base} {cl : CallK} {n : Nat} {H G : Heap} {Q : AV → Heap → Prop}

/-! ### A drawn region, step by step -/
theorem dop0 {i : Nat} {op : AOp} {r : List (AStep × List AStep)} {env : Env} {K : Env → Heap → Prop} (h : aop B env H (fun v H' => drawG B cl r (env.upd i v) H' K) op) : drawG B cl ((⟨some i, none, .op op⟩, []) :: r) env H K := h
theorem dopR {i : Nat} {op : AOp} {rs : List AStep} {r : List (AStep × List AStep)} {env : Env} {K : Env → Heap → Prop} (h : aop B env H (fun v H' => samesK B cl rs (env.upd i v) H' (drawG B cl r (env.upd i v) H' K)) op) : drawG B cl ((⟨some i, none, .op op⟩, rs) :: r) env H K := h
theorem tmov {t : Nat} {v : AV} {env : Env} {K : AV → Heap → Prop} (hv : env.f t = some v) (h : K v H) : aop B env H K (.mov (.tmp t)) := by
  simp only [aop, opK, Opd.look, hv, ob_some]; exact h
theorem tpre {es a b : Nat} {v u : AV} {env : Env} {K : AV → Heap → Prop} (ha : env.f a = some v) (hb : env.f b = some u) (h : aop B E0 H K (.sliceL es (.const v) none (some (.const u)) none)) : aop B env H K (.sliceL es (.tmp a) none (some (.tmp b)) none) := by
  simp only [aop, opK, Opd.look, optK, ha, hb, ob_some] at h ⊢; exact h
theorem tsuf {es a b : Nat} {v u : AV} {env : Env} {K : AV → Heap → Prop} (ha : env.f a = some v) (hb : env.f b = some u) (h : aop B E0 H K (.sliceL es (.const v) (some (.const u)) none none)) : aop B env H K (.sliceL es (.tmp a) (some (.tmp b)) none none) := by
  simp only [aop, opK, Opd.look, optK, ha, hb, ob_some] at h ⊢; exact h
theorem tidx {es a b : Nat} {v u : AV} {env : Env} {K : AV → Heap → Prop} (ha : env.f a = some v) (hb : env.f b = some u) (h : aop B E0 H K (.indexPtr es (.const v) (.const u))) : aop B env H K (.indexPtr es (.tmp a) (.tmp b)) := by
  simp only [aop, opK, Opd.look, ha, hb, ob_some] at h ⊢; exact h
theorem tldA {m a : Nat} {v : AV} {c : List AV} {env : Env} {K : AV → Heap → Prop} (ha : env.f a = some v) (hp : peekN B H m v = some c) (h : K (.agg c) H) : aop B env H K (.ldA m (.tmp a)) := by
  simp only [aop, opK, Opd.look, ha, hp, ob_some]; exact h
theorem tapp {es bytes a b : Nat} {v u : AV} {env : Env} {K : AV → Heap → Prop} (ha : env.f a = some v) (hb : env.f b = some u) (h : aop B E0 H K (.append es bytes (.const v) (.const u))) : aop B env H K (.append es bytes (.tmp a) (.tmp b)) := by
  simp only [aop, opK, Opd.look, ha, hb, ob_some] at h ⊢; exact h
theorem tbs0 {es : Nat} {env : Env} {K : AV → Heap → Prop} (h : K (.slice (.new H.length) 0 0 es (some 0)) (H ++ [.arr []])) : aop B env H K (.buildSlice es 0 [] []) := h
theorem tbs1 {es m a : Nat} {v : AV} {z c : List AV} {env : Env} {K : AV → Heap → Prop} (ha : env.f a = some v) (hl : layParts z [(0, m, v)] = some c) (h : K (.slice (.new H.length) 0 1 es (some 1)) (H ++ [.arr c])) : aop B env H K (.buildSlice es 1 z [(0, (m, .tmp a))]) := by
  simp only [aop, partsK, opK, Opd.look, ha, hl, ob_some]; exact h
theorem sameO {d : Nat} {op : AOp} {v : AV} {env : Env} (hv : env.f d = some v) (hd : Nat.blt d env.n = true) (h : aop B env H (fun u _ => u = v) op) : sameK B cl ⟨some d, none, .op op⟩ env H := by
  show aop B env H (fun v' _ => ob (env.f d) fun v => ob ((env.upd d v').f d) fun v'' => v'' = v) op
  have e : (fun (v' : AV) (_ : Heap) => ob (env.f d) fun v => ob ((env.upd d v').f d) fun v'' => v'' = v) = fun u _ => u = v := by
    funext v' _
    have e1 : (env.upd d v').f d = some v' := by
      show cond (Nat.beq d d) (cond (Nat.blt d env.n) (some v') none) (env.f d) = some v'
      rw [Nat.beq_refl, hd]; rfl
    rw [hv, ob_some, e1, ob_some]
  rw [e]; exact h

theorem fold_insert {x0 x3 : AV} {l out : List E} {i k : Nat} {e : E} (hs0 : Sl B G 4 x0 (l.map E.row)) (hi : l[i]? = some e) (h3 : Sl B G 4 x3 (out.map E.row)) (hc : capOK x3) (hk : k ≤ out.length) (hb : out.length ≤ 100000)
    (hq : ∀ q L, G.length ≤ q → (G ++ L)[q]? = some (.arr ((out.take k ++ [e] ++ out.drop k).map E.row).flatten) → J25_4 B cl n x0 (wV q 4 ((out.take k ++ [e] ++ out.drop k).map E.row)) (i : Int) (G ++ L) Q) : J25_2 B cl n x0 x3 (i : Int) (.int .i64 (k : Int)) G Q := by
  have hbig : maxBytes = 140737488355328 := rfl
  refine awC_keep.2 ?_
  have hr : (l.map E.row)[i]? = some e.row := by rw [List.getElem?_map, hi]; rfl
  have hil : i < (l.map E.row).length := (List.getElem?_eq_some_iff.1 hr).1
  have hel := hs0.el hr
  have hlen3 : lenOf x3 = some out.length := by have := h3.len; rwa [List.length_map] at this
  obtain ⟨v30, s1, s2, s3⟩ := suf_of h3 hc (j := k) (by rw [List.length_map]; exact hk)
  rw [List.length_map] at s1
  rw [← List.map_drop] at s2
  refine dop0 (tmov (v := x3) rfl ?_)
  refine dop0 (tmov (v := .int .i64 (k : Int)) rfl ?_)
  refine dop0 (tpre (v := x3) (u := .int .i64 (k : Int)) rfl rfl (op_prefix h3 rfl (by rw [List.length_map]; exact hk) fun v27 h27 _ => ?_))
  rw [← List.map_take] at h27
  refine dop0 (tmov (v := x0) rfl ?_)
  refine dop0 (tmov (v := .int .i64 (i : Int)) rfl ?_)
  refine dop0 (tidx (v := x0) (u := .int .i64 (i : Int)) rfl rfl (op_idx hs0 hil ?_))
  refine dop0 (tldA (v := ept 4 x0 i) (c := e.row) rfl (hel.peekN rfl) ?_)
  refine dop0 (tmov (v := x3) rfl ?_)
  refine dop0 (tmov (v := .int .i64 (k : Int)) rfl ?_)
  refine dop0 (tsuf (v := x3) (u := .int .i64 (k : Int)) rfl rfl (op_sl2 hlen3 s1 ?_))
  refine dop0 (tbs0 ?_)
  have g0 : (G ++ [AObj.arr []])[G.length]? = some (.arr ([] : List (List AV)).flatten) := by rw [get_app0]; rfl
  refine dopR (tapp (v := wV G.length 4 []) (u := v27) rfl rfl (op_appendN (rows1 := []) (rows2 := (out.take k).map E.row) g0 (fun r hr => by cases hr) h27.pre ?_ fun q1 o L1 hq1 hg1 => ?_))
  · rw [List.length_nil, List.length_map, List.length_take]; omega
  rw [List.nil_append] at hg1 ⊢
  have e1 : (G ++ [AObj.arr []]).set G.length o ++ L1 = G ++ (o :: L1) := by rw [set_app0, List.append_assoc]; rfl
  rw [e1] at hg1 ⊢
  generalize hM : o :: L1 = M at hg1 ⊢
  refine ⟨sameO (v := v30) rfl rfl (tsuf (v := x3) (u := .int .i64 (k : Int)) rfl rfl (op_sl2 hlen3 s1 rfl)), sameO (v := .int .i64 (k : Int)) rfl rfl (tmov (v := .int .i64 (k : Int)) rfl rfl), sameO (v := x3) rfl rfl (tmov (v := x3) rfl rfl),
    sameO (v := .agg e.row) rfl rfl (tldA (v := ept 4 x0 i) (c := e.row) rfl (hel.pre.peekN rfl) rfl), sameO (v := ept 4 x0 i) rfl rfl (tidx (v := x0) (u := .int .i64 (i : Int)) rfl rfl (op_idx hs0.pre hil rfl)), sameO (v := .int .i64 (i : Int)) rfl rfl (tmov (v := .int .i64 (i : Int)) rfl rfl), sameO (v := x0) rfl rfl (tmov (v := x0) rfl rfl), ?_⟩
  refine dop0 (tbs1 (v := .agg e.row) (c := e.row) rfl (lay_row (n := 4) rfl rfl) ?_)
  have hu : Sl B (G ++ M ++ [.arr e.row]) 4 (.slice (.new (G ++ M).length) 0 1 4 (some 1)) [e.row] := sl_row1 rfl
  have hq1l := lt_of_get hg1
  refine dopR (tapp (v := wV q1 4 ((out.take k).map E.row)) (u := .slice (.new (G ++ M).length) 0 1 4 (some 1)) rfl rfl (op_appendE (rows2 := [e.row]) (get_pre hg1) (E.rows_len _) hu (by simp) ?_ fun o2 => ?_))
  · rw [List.length_map, List.length_take]; simp only [List.length_singleton]; omega
  refine ⟨sameO (v := v30) rfl rfl (tsuf (v := x3) (u := .int .i64 (k : Int)) rfl rfl (op_sl2 hlen3 s1 rfl)), sameO (v := .int .i64 (k : Int)) rfl rfl (tmov (v := .int .i64 (k : Int)) rfl rfl), sameO (v := x3) rfl rfl (tmov (v := x3) rfl rfl), ?_⟩
  have hrows : (out.take k).map E.row ++ [e.row] = (out.take k ++ [e]).map E.row := by rw [List.map_append]; rfl
  rw [hrows]
  have hq1G : G.length ≤ q1 := hq1
  have e2 : (G ++ M ++ [AObj.arr e.row]).set q1 o2 = G ++ ((M ++ [AObj.arr e.row]).set (q1 - G.length) o2) := by
    rw [List.append_assoc, List.set_append_right _ _ hq1G]
  have e3 : (G ++ M ++ [AObj.arr e.row]).length = ((G ++ M ++ [AObj.arr e.row]).set q1 o2).length := (List.length_set ..).symm
  rw [e3, e2]
  generalize (M ++ [AObj.arr e.row]).set (q1 - G.length) o2 = M2
  have hg2 : (G ++ M2 ++ [AObj.arr ((out.take k ++ [e]).map E.row).flatten])[(G ++ M2).length]? = some (.arr ((out.take k ++ [e]).map E.row).flatten) := by rw [get_app0]; rfl
  refine dop0 (tapp (v := wV (G ++ M2).length 4 ((out.take k ++ [e]).map E.row)) (u := v30) rfl rfl (op_appendN (rows2 := (out.drop k).map E.row) hg2 (E.rows_len _) (s2.pre.pre) ?_ fun q3 o3 L3 hq3 hg3 => ?_))
  · rw [List.length_map, List.length_map, List.length_append, List.length_take, List.length_drop]; simp only [List.length_singleton]; omega
  have hrows2 : (out.take k ++ [e]).map E.row ++ (out.drop k).map E.row = (out.take k ++ [e] ++ out.drop k).map E.row := by rw [List.map_append (l₂ := out.drop k)]
  rw [hrows2] at hg3 ⊢
  have e4 : (G ++ M2 ++ [AObj.arr ((out.take k ++ [e]).map E.row).flatten]).set (G ++ M2).length o3 ++ L3 = G ++ (M2 ++ o3 :: L3) := by
    rw [set_app0, List.append_assoc, List.append_assoc]; rfl
  rw [e4] at hg3 ⊢
  refine dop0 (tmov (v := wV q3 4 ((out.take k ++ [e] ++ out.drop k).map E.row)) rfl ?_)
  have := hq q3 _ (by rw [List.length_append] at hq3; omega) hg3
  exact this

end
end Go.Am

/- Lists with rising keys, merged: of each key the newest; in plain Lean. -/
namespace Go.Am
open Go

def Rise (l : List E) : Prop := l.Pairwise fun a b => sLess a.key b.key = true
theorem Rise.tail {e : E} {t : List E} (h : Rise (e :: t)) : Rise t := (List.pairwise_cons.1 h).2
theorem Rise.head {e : E} {t : List E} (h : Rise (e :: t)) : ∀ x, x ∈ t → sLess e.key x.key = true := (List.pairwise_cons.1 h).1
theorem lt_ne {a b : List UInt8} (h : sLess a b = true) : a ≠ b := fun e => by rw [e, sLess_irrefl] at h; cases h
theorem le_lt {a b c : List UInt8} (h1 : Le a b) (h2 : sLess b c = true) : sLess a c = true := by
  rcases h1.eq with h | rfl
  · exact sLess_trans h h2
  · exact h2
theorem Rise.eq_of_key : ∀ {l : List E}, Rise l → ∀ {a b : E}, a ∈ l → b ∈ l → a.key = b.key → a = b
  | [], _, _, _, h, _, _ => by cases h
  | e :: t, hl, a, b, ha, hb, hk => by
    rcases List.mem_cons.1 ha with h1 | h1
    · rcases List.mem_cons.1 hb with h2 | h2
      · rw [h1, h2]
      · rw [h1] at hk
        exact absurd hk (lt_ne (hl.head b h2))
    · rcases List.mem_cons.1 hb with h2 | h2
      · rw [h2] at hk
        exact absurd hk.symm (lt_ne (hl.head a h1))
      · exact hl.tail.eq_of_key h1 h2 hk
/-- Rising lists of the same entries are the same. -/
theorem Rise.ext : ∀ {a b : List E}, Rise a → Rise b → (∀ e, e ∈ a ↔ e ∈ b) → a = b
  | [], [], _, _, _ => rfl
  | [], y :: b, _, _, h => by have := (h y).2 (List.mem_cons_self ..); cases this
  | x :: a, [], _, _, h => by have := (h x).1 (List.mem_cons_self ..); cases this
  | x :: a, y :: b, ha, hb, h => by
    have hxy : x = y := by
      rcases List.mem_cons.1 ((h x).1 (List.mem_cons_self ..)) with e | hx
      · exact e
      · rcases List.mem_cons.1 ((h y).2 (List.mem_cons_self ..)) with e | hy
        · exact e.symm
        · have h1 := hb.head x hx
          have h2 := ha.head y hy
          exact absurd rfl (lt_ne (sLess_trans h1 h2))
    subst hxy
    rw [ha.tail.ext hb.tail fun e => ?_]
    have := h e
    rw [List.mem_cons, List.mem_cons] at this
    constructor
    · intro he
      rcases this.1 (.inr he) with e2 | e2
      · subst e2; exact absurd rfl (lt_ne (ha.head e he))
      · exact e2
    · intro he
      rcases this.2 (.inr he) with e2 | e2
      · subst e2; exact absurd rfl (lt_ne (hb.head e he))
      · exact e2

def getE (key : List UInt8) (l : List E) : Option E := l.find? fun e => e.key == key
def look (key : List UInt8) : List (List E) → Option E
  | [] => none
  | l :: r => match getE key l with
    | some e => some e
    | none => look key r
theorem getE_cons (key : List UInt8) (e : E) (t : List E) : getE key (e :: t) = if e.key = key then some e else getE key t := by
  unfold getE
  rw [List.find?_cons]
  by_cases h : e.key = key
  · rw [if_pos h, beq_iff_eq.2 h]
  · rw [if_neg h, beq_eq_false_iff_ne.2 h]
theorem getE_mem {key : List UInt8} : ∀ {l : List E} {e : E}, getE key l = some e → e ∈ l ∧ e.key = key
  | [], _, h => by cases h
  | x :: t, e, h => by
    rw [getE_cons] at h
    split at h
    · rename_i hk; cases h; exact ⟨List.mem_cons_self .., hk⟩
    · have := getE_mem (l := t) h
      exact ⟨List.mem_cons_of_mem _ this.1, this.2⟩
theorem getE_none {key : List UInt8} : ∀ {l : List E}, getE key l = none ↔ ∀ e, e ∈ l → e.key ≠ key
  | [] => ⟨fun _ e h => (List.not_mem_nil h).elim, fun _ => rfl⟩
  | x :: t => by
    rw [getE_cons]
    split
    · rename_i hk
      exact ⟨fun h => (by cases h), fun h => absurd hk (h x (List.mem_cons_self ..))⟩
    · rename_i hk
      rw [getE_none (l := t)]
      exact ⟨fun h e he => (List.mem_cons.1 he).elim (fun e2 => by rw [e2]; exact hk) (h e), fun h e he => h e (List.mem_cons_of_mem _ he)⟩
theorem getE_iff {l : List E} (hl : Rise l) {e : E} : getE e.key l = some e ↔ e ∈ l := by
  refine ⟨fun h => (getE_mem h).1, fun h => ?_⟩
  cases hg : getE e.key l with
  | none => exact absurd rfl (getE_none.1 hg e h)
  | some x =>
    obtain ⟨h1, h2⟩ := getE_mem hg
    rw [hl.eq_of_key h1 h h2]
theorem look_cons (key : List UInt8) (l : List E) (r : List (List E)) : look key (l :: r) = (getE key l).or (look key r) := by
  rw [look]; cases getE key l <;> rfl
theorem look_mem {key : List UInt8} : ∀ {ls : List (List E)} {e : E}, look key ls = some e → e.key = key ∧ ∃ l, l ∈ ls ∧ e ∈ l
  | [], _, h => by cases h
  | l :: r, e, h => by
    rw [look_cons] at h
    cases hg : getE key l with
    | some x =>
      rw [hg] at h; cases h
      obtain ⟨h1, h2⟩ := getE_mem hg
      exact ⟨h2, l, List.mem_cons_self .., h1⟩
    | none =>
      rw [hg] at h
      obtain ⟨h1, l', h2, h3⟩ := look_mem (ls := r) h
      exact ⟨h1, l', List.mem_cons_of_mem _ h2, h3⟩
theorem look_some {key : List UInt8} : ∀ {ls : List (List E)}, (∃ l, l ∈ ls ∧ ∃ e, e ∈ l ∧ e.key = key) → ∃ e, look key ls = some e
  | [], ⟨_, h, _⟩ => by cases h
  | l :: r, ⟨l', hl, e, he, hk⟩ => by
    rw [look_cons]
    cases hg : getE key l with
    | some x => exact ⟨x, rfl⟩
    | none =>
      rcases List.mem_cons.1 hl with rfl | hl
      · exact absurd hk (getE_none.1 hg e he)
      · obtain ⟨x, hx⟩ := look_some (ls := r) ⟨l', hl, e, he, hk⟩
        exact ⟨x, by rw [hx]; rfl⟩
theorem look_nils (key : List UInt8) : ∀ {ls : List (List E)}, (∀ l, l ∈ ls → l = []) → look key ls = none
  | [], _ => rfl
  | l :: r, h => by
    rw [look_cons, h l (List.mem_cons_self ..), look_nils key (ls := r) fun x hx => h x (List.mem_cons_of_mem _ hx)]; rfl
theorem look_append (key : List UInt8) : ∀ (a b : List (List E)), look key (a ++ b) = (look key a).or (look key b)
  | [], _ => rfl
  | l :: r, b => by
    rw [List.cons_append, look_cons, look_cons, look_append key r b]
    cases getE key l <;> rfl

/-! ### A round -/
theorem hd_mem {e : E} {t : List E} {ls : List (List E)} (h : (e :: t) ∈ ls) : e ∈ hds ls := by
  unfold hds; rw [List.mem_filterMap]; exact ⟨_, h, rfl⟩
theorem step_rise {k : List UInt8} {l : List E} (h : Rise l) : Rise (stepL k l) := by
  cases l with
  | nil => exact h
  | cons e t => rw [stepL_cons]; split; · exact h.tail
                · exact h
theorem step_gt {k : List UInt8} {l : List E} (hl : Rise l) (hk : ∀ e, l.head? = some e → Le k e.key) : ∀ x, x ∈ stepL k l → sLess k x.key = true := fun x hx => by
  cases l with
  | nil => cases hx
  | cons e t =>
    have h1 := hk e rfl
    rw [stepL_cons] at hx
    split at hx
    · rename_i he
      rw [← he]; exact hl.head x hx
    · rename_i he
      have h2 : sLess k e.key = true := by
        rcases h1.eq with h | h
        · exact h
        · exact absurd h.symm he
      rcases List.mem_cons.1 hx with rfl | hx
      · exact h2
      · exact sLess_trans h2 (hl.head x hx)
theorem getE_step {k key : List UInt8} (hne : key ≠ k) : ∀ l : List E, getE key (stepL k l) = getE key l
  | [] => rfl
  | e :: t => by
    rw [stepL_cons]
    split
    · rename_i he
      rw [getE_cons, if_neg (fun h => hne (h.symm.trans he))]
    · rfl
theorem look_step {k key : List UInt8} (hne : key ≠ k) : ∀ ls : List (List E), look key (ls.map (stepL k)) = look key ls
  | [] => rfl
  | l :: r => by rw [List.map_cons, look_cons, look_cons, getE_step hne, look_step hne r]
theorem getE_head {k : List UInt8} {e : E} {t : List E} (hl : Rise (e :: t)) (hk : Le k e.key) : getE k (e :: t) = if e.key = k then some e else none := by
  rw [getE_cons]
  by_cases h : e.key = k
  · rw [if_pos h, if_pos h]
  · rw [if_neg h, if_neg h, getE_none]
    intro x hx
    exact (lt_ne (le_lt hk (hl.head x hx))).symm
theorem look_head {k : List UInt8} : ∀ {ls : List (List E)}, (∀ l, l ∈ ls → Rise l) → (∀ e, e ∈ hds ls → Le k e.key) → look k ls = (hds ls).find? fun e => e.key == k
  | [], _, _ => rfl
  | [] :: r, h1, h2 => by
    rw [look_cons, hds_cons_nil, ← look_head (ls := r) (fun l hl => h1 l (List.mem_cons_of_mem _ hl)) h2]; rfl
  | (e :: t) :: r, h1, h2 => by
    have hh := getE_head (k := k) (h1 _ (List.mem_cons_self ..)) (h2 e (by rw [hds_cons]; exact List.mem_cons_self ..))
    rw [look_cons, hh, hds_cons, List.find?_cons]
    by_cases hk : e.key = k
    · rw [if_pos hk, beq_iff_eq.2 hk]; rfl
    · rw [if_neg hk, beq_eq_false_iff_ne.2 hk]
      rw [← look_head (ls := r) (fun l hl => h1 l (List.mem_cons_of_mem _ hl)) (fun x hx => h2 x (by rw [hds_cons]; exact List.mem_cons_of_mem _ hx))]; rfl

theorem out1_mem {bot : Bool} {e x : E} : x ∈ out1 bot e ↔ x = e ∧ (bot && e.del) = false := by
  unfold out1
  cases h : (bot && e.del)
  · simp
  · simp

theorem mergeF_spec : ∀ (f : Nat) (ls : List (List E)) (bot : Bool), (∀ l, l ∈ ls → Rise l) → tot ls ≤ f → Rise (mergeF f ls bot) ∧ ∀ e, e ∈ mergeF f ls bot ↔ look e.key ls = some e ∧ (bot && e.del) = false := by
  intro f
  induction f with
  | zero =>
    intro ls bot hr ht
    refine ⟨List.Pairwise.nil, fun e => ⟨fun h => (List.not_mem_nil h).elim, fun ⟨h, _⟩ => ?_⟩⟩
    obtain ⟨_, l, hl, he⟩ := look_mem h
    have : ∀ {ls : List (List E)} {l : List E}, l ∈ ls → l.length ≤ tot ls := by
      intro ls
      induction ls with
      | nil => intro l h; cases h
      | cons x r ih =>
        intro l h
        rw [tot_cons]
        rcases List.mem_cons.1 h with rfl | h
        · omega
        · have := ih h; omega
    have h1 := this hl
    have h2 := List.length_pos_of_mem he
    omega
  | succ f ih =>
    intro ls bot hr ht
    unfold mergeF
    cases hk : leastF none ls with
    | none =>
      have h0 := hds_nil.1 (leastF_none.1 hk)
      refine ⟨List.Pairwise.nil, fun e => ⟨fun h => (List.not_mem_nil h).elim, fun ⟨h, _⟩ => ?_⟩⟩
      rw [look_nils _ h0] at h; cases h
    | some k =>
      simp only
      obtain ⟨⟨e0, he0, hk0⟩, hmin⟩ := leastF_some.1 hk
      have hlt := tot_step_lt (leastF_some.1 hk).1
      have hr' : ∀ l, l ∈ ls.map (stepL k) → Rise l := fun l hl => by
        obtain ⟨x, hx, rfl⟩ := List.mem_map.1 hl
        exact step_rise (hr x hx)
      obtain ⟨i1, i2⟩ := ih (ls.map (stepL k)) bot hr' (by omega)
      have hgt : ∀ x, x ∈ mergeF f (ls.map (stepL k)) bot → sLess k x.key = true := fun x hx => by
        obtain ⟨_, l, hl, hxl⟩ := look_mem ((i2 x).1 hx).1
        obtain ⟨y, hy, rfl⟩ := List.mem_map.1 hl
        refine step_gt (hr y hy) (fun e he => ?_) x hxl
        cases y with
        | nil => cases he
        | cons a t => cases he; exact hmin e (hd_mem hy)
      have hlook := look_head (k := k) hr hmin
      -- the round's entry
      obtain ⟨e1, he1⟩ : ∃ e, (hds ls).find? (fun e => e.key == k) = some e := by
        cases hf : (hds ls).find? (fun e => e.key == k) with
        | some e => exact ⟨e, rfl⟩
        | none => exact absurd (List.find?_eq_none.1 hf e0 he0) (by simp [hk0])
      have hk1 : e1.key = k := by have := List.find?_some he1; simpa using this
      have hround : roundF k bot ls = out1 bot e1 := by unfold roundF; rw [he1]
      rw [hround]
      refine ⟨?_, fun e => ?_⟩
      · refine List.pairwise_append.2 ⟨?_, i1, fun a ha b hb => ?_⟩
        · unfold out1; split
          · exact List.Pairwise.nil
          · exact List.pairwise_singleton ..
        · rw [(out1_mem.1 ha).1, hk1]; exact hgt b hb
      · rw [List.mem_append, out1_mem]
        by_cases hek : e.key = k
        · rw [hek, hlook, he1]
          constructor
          · rintro (⟨rfl, h⟩ | h)
            · exact ⟨rfl, h⟩
            · have := hgt e h
              rw [hek, sLess_irrefl] at this; cases this
          · rintro ⟨h1, h2⟩
            cases h1; exact .inl ⟨rfl, h2⟩
        · rw [← look_step hek]
          constructor
          · rintro (⟨rfl, h⟩ | h)
            · exact absurd hk1 hek
            · exact (i2 e).1 h
          · intro h; exact .inr ((i2 e).2 h)

def mergeL (ls : List (List E)) (bot : Bool) : List E := mergeF (tot ls) ls bot
theorem mergeL_rise {ls : List (List E)} {bot : Bool} (h : ∀ l, l ∈ ls → Rise l) : Rise (mergeL ls bot) := (mergeF_spec _ ls bot h (Nat.le_refl _)).1
theorem mergeL_mem {ls : List (List E)} {bot : Bool} (h : ∀ l, l ∈ ls → Rise l) {e : E} : e ∈ mergeL ls bot ↔ look e.key ls = some e ∧ (bot && e.del) = false := (mergeF_spec _ ls bot h (Nat.le_refl _)).2 e
/-- What is merged is found as it was. -/
theorem getE_merge {ls : List (List E)} (h : ∀ l, l ∈ ls → Rise l) (key : List UInt8) : getE key (mergeL ls false) = look key ls := by
  cases hl : look key ls with
  | none =>
    rw [getE_none]
    intro e he hk
    have := (mergeL_mem h).1 he
    rw [hk, hl] at this; cases this.1
  | some e =>
    obtain ⟨hk, _⟩ := look_mem hl
    have : e ∈ mergeL ls false := (mergeL_mem h).2 ⟨by rw [hk]; exact hl, rfl⟩
    rw [← hk]
    exact (getE_iff (mergeL_rise h)).2 this
end Go.Am

/- The document's Fold; the statements' function rising. -/
namespace Go.Am
open Go

def putE (out : List E) (e : E) : List E :=
  if findB e.key out = true then (if e.seq ≥ (out.getD (findC e.key out) ⟨[], [], false, 0⟩).seq then out.set (findC e.key out) e else out)
  else out.take (findC e.key out) ++ [e] ++ out.drop (findC e.key out)
def foldG : List E → List E → List E
  | out, [] => out
  | out, e :: r => foldG (putE out e) r
def foldF (l : List E) : List E := foldG [] l
theorem putE_len (out : List E) (e : E) : (putE out e).length ≤ out.length + 1 := by
  unfold putE
  split
  · split
    · rw [List.length_set]; omega
    · omega
  · simp only [List.length_append, List.length_take, List.length_drop, List.length_singleton]; omega
theorem foldG_len : ∀ (r out : List E), (foldG out r).length ≤ out.length + r.length
  | [], out => Nat.le_refl _
  | e :: r, out => by
    have h1 := foldG_len r (putE out e)
    have h2 := putE_len out e
    rw [foldG, List.length_cons]; omega

theorem putAt_flatten {es : Nat} : ∀ {rows : List (List AV)} {k : Nat} {row : List AV}, (∀ r, r ∈ rows → r.length = es) → row.length = es → k < rows.length → putAt rows.flatten (k * es) row = (rows.set k row).flatten
  | [], k, row, _, _, h => by simp at h
  | r :: rs, 0, row, hl, hr, _ => by
    have h0 := hl r (List.mem_cons_self ..)
    simp only [putAt, Nat.zero_mul, List.take_zero, List.nil_append, Nat.zero_add, List.set_cons_zero, List.flatten_cons]
    rw [List.drop_left' (by omega)]
  | r :: rs, k + 1, row, hl, hr, h => by
    have h0 := hl r (List.mem_cons_self ..)
    have ih := putAt_flatten (rows := rs) (k := k) (fun x hx => hl x (List.mem_cons_of_mem _ hx)) hr (by simpa using h)
    simp only [putAt, List.set_cons_succ, List.flatten_cons] at ih ⊢
    rw [← ih]
    have e1 : (k + 1) * es = r.length + k * es := by rw [h0, Nat.add_mul]; omega
    rw [e1, List.take_append, List.take_of_length_le (by omega), show r.length + k * es - r.length = k * es by omega]
    rw [show r.length + k * es + row.length = r.length + (k * es + row.length) by omega, List.drop_append, List.drop_of_length_le (by omega), show r.length + (k * es + row.length) - r.length = k * es + row.length by omega]
    simp
theorem wV_congr {q es : Nat} {r1 r2 : List (List AV)} (h : r1.length = r2.length) : wV q es r1 = wV q es r2 := by
  unfold wV
  by_cases h1 : r1 = []
  · subst h1
    have : r2 = [] := List.length_eq_zero_iff.1 h.symm
    subst this; rfl
  · rw [if_neg h1, if_neg (fun e => h1 (List.length_eq_zero_iff.1 (by rw [h, e]; rfl))), h]
theorem wV_ept {q es i : Nat} {rows : List (List AV)} : ept es (wV q es rows) i = .ptr (some (.new q, i * es)) := by
  unfold wV; split <;> simp [ept]

section
variable {B : Base} {n : Nat} {H G : Heap} {Q : AV → Heap → Prop}

/-- nil, or a list of its own. -/
def OutS (H G : Heap) (v : AV) (l : List E) : Prop := (v = .nils ∧ l = []) ∨ ∃ q, v = wV q 4 (l.map E.row) ∧ H.length ≤ q ∧ G[q]? = some (.arr (l.map E.row).flatten)
theorem OutS.sl {v : AV} {l : List E} (h : OutS H G v l) : Sl B G 4 v (l.map E.row) := by
  rcases h with ⟨rfl, rfl⟩ | ⟨q, rfl, _, hg⟩
  · exact ⟨fun r hr => by simp at hr, .inl ⟨rfl, rfl⟩⟩
  · exact wV_sl hg (E.rows_len _)
theorem OutS.capN {v : AV} {l : List E} (h : OutS H G v l) : capN v := by
  rcases h with ⟨rfl, _⟩ | ⟨q, rfl, _, _⟩
  · exact fun o off len es c e => by cases e
  · exact capN_wV

theorem fold_loop {x0 : AV} {l : List E} (hx : Sl B H 4 x0 (l.map E.row)) (hb : l.length ≤ 10000) (hq : ∀ v G, (∃ L, G = H ++ L) → OutS H G v (foldF l) → Q v G) :
    ∀ (r : List E) (i : Nat) (x3 : AV) (out : List E) (G : Heap), l.drop i = r → (∃ L, G = H ++ L) → OutS H G x3 out → out.length ≤ i → foldG out r = foldF l → L25_6 B (Cl B) n x0 x3 (i : Int) G Q := by
  intro r
  induction r with
  | nil =>
    intro i x3 out G hd hp ho hl he
    refine L25_6_in (ACall.cle B table) ?_
    have := drop_nil hd
    rw [hx.len, ob_some, List.length_map]
    refine bs_no (decide_eq_false (by omega)) (J25_7_in (tidy_none (hq x3 G hp ?_)))
    rw [← he]; exact ho
  | cons e r ih =>
    intro i x3 out G hd hp ho hl he
    obtain ⟨g1, g2, g3⟩ := drop_cons hd
    refine L25_6_in (ACall.cle B table) ?_
    rw [hx.len, ob_some, List.length_map]
    refine bs_yes (decide_eq_true (by omega)) (J25_5_in ?_)
    obtain ⟨L, hL⟩ := hp
    have hxG : Sl B G 4 x0 (l.map E.row) := by rw [hL]; exact hx.pre
    have hr : (l.map E.row)[i]? = some e.row := by rw [List.getElem?_map, g1]; rfl
    have hil : i < (l.map E.row).length := by rw [List.length_map]; exact g2
    refine op_idx hxG hil (op_fld (hxG.el hr) ?_)
    rw [(hxG.el hr).fld (off := 0) (v := .str e.key) rfl, ob_some, pStr_str]
    have h3 : Sl B G 4 x3 (out.map E.row) := ho.sl
    have next : ∀ (v : AV) (out' : List E) (G' : Heap), (∃ L, G' = H ++ L) → OutS H G' v out' → out' = putE out e → J25_4 B (Cl B) n x0 v (i : Int) G' Q := fun v out' G' a1 a2 a3 => by
      refine J25_4_in ?_
      rw [w64 (by omega)]
      have := putE_len out e
      exact ih (i + 1) v out' G' g3 a1 a2 (by rw [a3]; omega) (by rw [a3, ← he]; rfl)
    refine f15_ok h3 (by omega) (live_tuple ?_)
    have ext0 : ∀ {K : AV → Heap → Prop}, K (.int .i64 (findC e.key out : Int)) G → aop B E0 G K (.extract (some (.int .i64)) 0 (.const (.tuple [.int .i64 (findC e.key out : Int), .bool (findB e.key out)]))) := fun {K} hk => by
      simp only [aop, opK, Opd.look, ob_some, List.getElem?_cons_zero, extK, tyK]
      rw [pInt_int]; exact hk
    refine ext0 (op_extB (b := findB e.key out) rfl (J25_3_in (J25_1_in ?_)))
    rw [pBool_bool]
    have hcl := findC_le e.key out
    split
    · rename_i hb1
      have hlt := findC_lt hb1
      obtain ⟨q, rfl, hq1, hg⟩ : ∃ q, x3 = wV q 4 (out.map E.row) ∧ H.length ≤ q ∧ G[q]? = some (.arr (out.map E.row).flatten) := by
        rcases ho with ⟨_, rfl⟩ | h
        · simp at hlt
        · exact h
      have hro : (out.map E.row)[findC e.key out]? = some (out.getD (findC e.key out) ⟨[], [], false, 0⟩).row := by
        rw [List.getElem?_map, List.getElem?_eq_getElem hlt]; simp [List.getD_eq_getElem?_getD, hlt]
      have hlo : findC e.key out < (out.map E.row).length := by rw [List.length_map]; exact hlt
      refine op_idx hxG hil (op_fld (hxG.el hr) ?_)
      rw [(hxG.el hr).fld (off := 3) (v := .int .i64 e.seq) rfl, ob_some, pInt_int]
      refine op_idx h3 hlo (op_fld (h3.el hro) ?_)
      rw [(h3.el hro).fld (off := 3) (v := .int .i64 (out.getD (findC e.key out) ⟨[], [], false, 0⟩).seq) rfl, ob_some, pInt_int]
      refine ib_ge (J25_0_in ?_)
      rw [pBool_bool]
      split
      · rename_i hs
        have hs : e.seq ≥ (out.getD (findC e.key out) ⟨[], [], false, 0⟩).seq := of_decide_eq_true hs
        refine op_idx hxG hil ?_
        rw [(hxG.el hr).peekN (n := 4) rfl, ob_some]
        refine op_idx h3 hlo ?_
        rw [wV_ept]
        have hfl : (out.map E.row).flatten.length = out.length * 4 := by rw [flatten_len (E.rows_len _), List.length_map]
        refine op_st_arr (n := 4) (vs := e.row) rfl rfl hg (by omega) ?_
        rw [putAt_flatten (E.rows_len _) rfl hlo]
        have hset : (out.map E.row).set (findC e.key out) e.row = (out.set (findC e.key out) e).map E.row := by rw [List.map_set]
        rw [hset]
        have hwv : wV q 4 (out.map E.row) = wV q 4 ((out.set (findC e.key out) e).map E.row) := wV_congr (by rw [List.length_map, List.length_map, List.length_set])
        rw [hwv]
        refine next _ _ _ ?_ (.inr ⟨q, rfl, hq1, get_set (lt_of_get hg)⟩) ?_
        · rw [hL]; exact set_pre hq1
        · unfold putE; rw [if_pos hb1, if_pos hs]
      · rename_i hs
        have hs : ¬ e.seq ≥ (out.getD (findC e.key out) ⟨[], [], false, 0⟩).seq := fun h => hs (decide_eq_true h)
        refine next _ out G ⟨L, hL⟩ ho ?_
        unfold putE; rw [if_pos hb1, if_neg hs]
    · rename_i hb1
      refine fold_insert hxG g1 h3 ho.capN.ok hcl (by omega) fun q L2 hq2 hg2 => ?_
      refine next _ (out.take (findC e.key out) ++ [e] ++ out.drop (findC e.key out)) _ ?_ (.inr ⟨q, rfl, ?_, hg2⟩) ?_
      · rw [hL, List.append_assoc]; exact ⟨_, rfl⟩
      · rw [hL, List.length_append] at hq2; omega
      · unfold putE; rw [if_neg hb1]

/-- The document's Fold. -/
theorem f25_ok {x0 : AV} {l : List E} (hx : Sl B H 4 x0 (l.map E.row)) (hb : l.length ≤ 10000) (hq : ∀ v L, OutS H (H ++ L) v (foldF l) → Q v (H ++ L)) : Cl B 25 [x0] H Q := by
  refine f25_in fun n cl hn hcl hH hA => ?_
  subst hcl
  exact fold_loop hx hb (fun v G hp ho => by obtain ⟨L, rfl⟩ := hp; exact hq v L ho) l 0 .nils [] H rfl ⟨[], (List.append_nil _).symm⟩ (.inl ⟨rfl, rfl⟩) (Nat.le_refl _) rfl

/-! ### rising -/
/-- Behind H: at j the lists; each is nil or its own, and not another one's. -/
structure RL (H G : Heap) (j : Nat) (ts : List (AV × List E)) : Prop where
  pre : ∃ L, G = H ++ L
  hj : H.length ≤ j
  gj : G[j]? = some (.arr (ts.map (·.1)))
  el : ∀ t, t ∈ ts → OutS H G t.1 t.2 ∧ at? t.1 ≠ some j
  nd : ts.Pairwise fun a b => ∀ q, at? a.1 = some q → at? b.1 ≠ some q
theorem RL.lse {j : Nat} {ts : List (AV × List E)} (h : RL H G j ts) : LsE B G ts := fun t ht => ⟨(h.el t ht).1.sl, (h.el t ht).1.capN⟩
theorem RL.sl {j : Nat} {ts : List (AV × List E)} (h : RL H G j ts) : Sl B G 1 (wV j 1 (ts.map lrow)) (ts.map lrow) := wV_sl (by rw [lrow_flat]; exact h.gj) (lrow_len ts)
theorem RL.ls {j : Nat} {ts : List (AV × List E)} (h : RL H G j ts) : Ls B G (wV j 1 (ts.map lrow)) ts := ⟨h.sl, fun t ht => (h.lse t ht).1⟩
theorem OutS.lt {v : AV} {l : List E} (h : OutS H G v l) {q : Nat} (hq : at? v = some q) : q < G.length := by
  rcases h with ⟨rfl, _⟩ | ⟨p, rfl, _, hg⟩
  · cases hq
  · rw [at_wV] at hq; cases hq; exact lt_of_get hg
theorem OutS.grow {v : AV} {l : List E} (h : OutS H G v l) (L : List AObj) : OutS H (G ++ L) v l := h.imp id fun ⟨q, a, b, c⟩ => ⟨q, a, b, get_pre c⟩
theorem OutS.set {v : AV} {l : List E} (h : OutS H G v l) {k : Nat} (hk : at? v ≠ some k) (o : AObj) : OutS H (G.set k o) v l := h.imp id fun ⟨q, a, b, c⟩ => ⟨q, a, b, by
  rw [get_set_ne (fun e => hk (by rw [a, at_wV, e]))]; exact c⟩
theorem OutS.low {H' : Heap} {v : AV} {l : List E} (h : OutS H' G v l) (hl : H.length ≤ H'.length) : OutS H G v l := h.imp id fun ⟨q, a, b, c⟩ => ⟨q, a, by omega, c⟩

theorem rise_loop {j m : Nat} {ls : List (List E)} (hm : m ≤ 12) (hq : ∀ G ts, RL H G j ts → ts.map (·.2) = ls.map foldF → Q (wV j 1 (ts.map lrow)) G) :
    ∀ (todo done : List (AV × List E)) (G : Heap), (∃ L, G = H ++ L) → H.length ≤ j → G[j]? = some (.arr ((done ++ todo).map (·.1))) → (∀ t, t ∈ done ++ todo → OutS H G t.1 t.2 ∧ at? t.1 ≠ some j) → (done.Pairwise fun a b => ∀ q, at? a.1 = some q → at? b.1 ≠ some q) → done.length + todo.length = m → (∀ t, t ∈ todo → t.2.length ≤ 60) → done.map (·.2) ++ (todo.map (·.2)).map foldF = ls.map foldF →
      L14_0 B (Cl B) n (wL j m) (done.length : Int) G Q := by
  intro todo
  induction todo with
  | nil =>
    intro done G hp hj hg he hn hl hs hr
    simp only [List.append_nil, List.length_nil, Nat.add_zero, List.map_nil] at hg he hl hr
    have hrl : RL H G j done := ⟨hp, hj, hg, he, hn⟩
    have hsl := hrl.sl (B := B)
    rw [wL_eq, List.length_map, hl] at hsl
    refine L14_0_in (ACall.cle B table) ?_
    rw [hsl.len, ob_some, List.length_map, hl]
    refine bs_no (decide_eq_false (by omega)) (J14_1_in (tidy_none ?_))
    have := hq G done hrl hr
    rw [wL_eq, List.length_map, hl] at this
    exact this
  | cons t r ih =>
    intro done G hp hj hg he hn hl hs hr
    have hlen : (done ++ t :: r).length = m := by rw [List.length_append]; exact hl
    have hsl : Sl B G 1 (wL j m) ((done ++ t :: r).map lrow) := by
      have := wV_sl (B := B) (k := j) (es := 1) (rows := (done ++ t :: r).map lrow) (H := G) (by rw [lrow_flat]; exact hg) (lrow_len _)
      rw [wL_eq, List.length_map, hlen] at this
      exact this
    have hlt : done.length < m := by simp only [List.length_cons] at hl; omega
    have h1 : (done ++ t :: r)[done.length]? = some t := by rw [List.getElem?_append_right (Nat.le_refl _)]; simp
    have hrow : ((done ++ t :: r).map lrow)[done.length]? = some [t.1] := by rw [List.getElem?_map, h1]; rfl
    have hil : done.length < ((done ++ t :: r).map lrow).length := by rw [List.length_map, hlen]; exact hlt
    refine L14_0_in (ACall.cle B table) ?_
    rw [hsl.len, ob_some, List.length_map, hlen]
    refine bs_yes (decide_eq_true (by omega)) (op_idx hsl hil ?_)
    rw [(hsl.el hrow).peek0 (v := t.1) rfl, ob_some]
    have ht := he t (by simp)
    have hst : Sl B G 4 t.1 (t.2.map E.row) := ht.1.sl
    obtain ⟨L0, hL0⟩ := hp
    have h60 := hs t (List.mem_cons_self ..)
    refine Sl.live hst _ (f25_ok hst (by omega) fun v L ho => Sl.live (ho.sl (B := B)) _ (op_idx hsl.pre hil ?_))
    rw [wL_ept]
    have hgL := get_pre (L := L) hg
    have hjl := lt_of_get hg
    have hHG : H.length ≤ G.length := by rw [hL0, List.length_append]; omega
    have hcell : v.cells? = some [v] := sl_cells (ho.sl (B := B))
    refine op_st_arr (n := 1) (vs := [v]) hcell rfl hgL (by rw [List.length_map, hlen]; omega) ?_
    rw [putAt_set (by rw [List.length_map, hlen]; exact hlt)]
    have hset : ((done ++ t :: r).map (·.1)).set done.length v = ((done ++ [(v, foldF t.2)]) ++ r).map (·.1) := by
      simp only [List.map_append, List.map_cons]
      rw [List.set_append_right _ _ (by simp)]
      simp
    rw [hset, w64 (by omega)]
    have hvj : at? v ≠ some j := by
      rcases ho with ⟨rfl, _⟩ | ⟨q, rfl, hq1, _⟩
      · intro e; cases e
      · rw [at_wV]; intro e; cases e; omega
    have := ih (done ++ [(v, foldF t.2)]) ((G ++ L).set j (.arr (((done ++ [(v, foldF t.2)]) ++ r).map (·.1)))) ?_ hj (get_set (lt_of_get hgL)) (fun u hu => ?_) ?_ (by simp only [List.length_append, List.length_cons, List.length_nil] at hl ⊢; omega) (fun u hu => hs u (List.mem_cons_of_mem _ hu)) (by rw [← hr]; simp)
    · simpa using this
    · rw [hL0, List.append_assoc]; exact set_pre hj
    · have old : u ∈ done ++ t :: r → OutS H ((G ++ L).set j (.arr (((done ++ [(v, foldF t.2)]) ++ r).map (·.1)))) u.1 u.2 ∧ at? u.1 ≠ some j := fun hu => by
        have := he u hu
        exact ⟨(this.1.grow L).set this.2 _, this.2⟩
      rcases List.mem_append.1 hu with hu | hu
      · rcases List.mem_append.1 hu with hu | hu
        · exact old (List.mem_append_left _ hu)
        · rw [List.mem_singleton] at hu; subst hu
          exact ⟨(ho.low hHG).set hvj _, hvj⟩
      · exact old (List.mem_append_right _ (List.mem_cons_of_mem _ hu))
    · rw [List.pairwise_append]
      refine ⟨hn, List.pairwise_singleton .., fun a ha b hb q hqa hqb => ?_⟩
      rw [List.mem_singleton] at hb; subst hb
      have h1 := (he a (List.mem_append_left _ ha)).1.lt hqa
      rcases ho with ⟨rfl, _⟩ | ⟨p, rfl, hq1, _⟩
      · cases hqb
      · rw [at_wV] at hqb; cases hqb; omega

theorem OL.outS {j : Nat} {ts : List (AV × List E)} (h : OL H G j ts) : ∀ t, t ∈ ts → OutS H G t.1 t.2 ∧ at? t.1 ≠ some j := fun t ht => by
  obtain ⟨q, a, b, c, d⟩ := h.el t ht
  exact ⟨.inr ⟨q, a, b, d⟩, by rw [a, at_wV]; intro e; cases e; exact c rfl⟩

/-- The function rising: each key once, in order. -/
theorem f14_ok {x : AV} {ts : List (AV × List E)} (hx : Ls B H x ts) (hq : ∀ j L ts', RL H (H ++ L) j ts' → ts'.map (·.2) = (small (ts.map (·.2))).map foldF → Q (wV j 1 (ts'.map lrow)) (H ++ L)) : Cl B 14 [x] H Q := by
  refine f14_in fun n cl hn hcl hH hA => ?_
  subst hcl
  refine f10_ok hx fun j L ts1 o1 e1 => wV_live _ _ _ _ ?_
  have hl : ts1.length ≤ 12 := by
    have := congrArg List.length e1
    rw [List.length_map] at this
    have := small_len (ts.map (·.2))
    omega
  rw [wL_eq, List.length_map]
  refine rise_loop (j := j) (m := ts1.length) (ls := small (ts.map (·.2))) hl (fun G ts' h he => by obtain ⟨L', rfl⟩ := h.pre; exact hq j L' ts' h he) ts1 [] (H ++ L) ⟨L, rfl⟩ o1.hj o1.gj o1.outS .nil (Nat.zero_add _) (fun t ht => ?_) (by rw [← e1]; rfl)
  have : t.2 ∈ small (ts.map (·.2)) := by rw [← e1]; exact List.mem_map.2 ⟨t, ht, rfl⟩
  unfold small at this
  obtain ⟨l0, _, e⟩ := List.mem_map.1 this
  rw [← e, List.length_take]; omega

end
end Go.Am

/- Fold makes lists rise; what Find finds in them; laws of merging. -/
namespace Go.Am
open Go

theorem findB_iff {key : List UInt8} : ∀ {l : List E}, findB key l = true ↔ ∃ e, e ∈ l ∧ e.key = key
  | [] => ⟨fun h => (Bool.false_ne_true h).elim, fun ⟨_, h, _⟩ => (List.not_mem_nil h).elim⟩
  | x :: t => by
    unfold findB
    rw [Bool.or_eq_true, beq_iff_eq, findB_iff (l := t)]
    constructor
    · rintro (h | ⟨e, h1, h2⟩)
      · exact ⟨x, List.mem_cons_self .., h⟩
      · exact ⟨e, List.mem_cons_of_mem _ h1, h2⟩
    · rintro ⟨e, h1, h2⟩
      rcases List.mem_cons.1 h1 with h | h
      · rw [h] at h2; exact .inl h2
      · exact .inr ⟨e, h, h2⟩
theorem findC_zero {key : List UInt8} : ∀ {l : List E}, (∀ x, x ∈ l → sLess x.key key = false) → findC key l = 0
  | [], _ => rfl
  | x :: t, h => by
    rw [findC_cons, h x (List.mem_cons_self ..), if_neg (by decide), findC_zero (l := t) fun y hy => h y (List.mem_cons_of_mem _ hy)]
/-- In a rising list those ahead of the place are lesser, the others are not. -/
theorem find_split {key : List UInt8} : ∀ {l : List E}, Rise l → (∀ x, x ∈ l.take (findC key l) → sLess x.key key = true) ∧ ∀ x, x ∈ l.drop (findC key l) → sLess x.key key = false
  | [], _ => ⟨fun x h => by simp at h, fun x h => by simp at h⟩
  | a :: t, hl => by
    cases h : sLess a.key key with
    | true =>
      rw [findC_cons, h, if_pos rfl, Nat.add_comm 1, List.take_succ_cons, List.drop_succ_cons]
      have ih := find_split (key := key) hl.tail
      exact ⟨fun x hx => (List.mem_cons.1 hx).elim (fun e => by rw [e]; exact h) (ih.1 x), ih.2⟩
    | false =>
      have hz : ∀ x, x ∈ a :: t → sLess x.key key = false := fun x hx => by
        rcases List.mem_cons.1 hx with e | hx
        · rw [e]; exact h
        · cases hs : sLess x.key key with
          | false => rfl
          | true =>
            have := sLess_trans (hl.head x hx) hs
            rw [this] at h; cases h
      rw [findC_zero hz]
      exact ⟨fun x hx => by simp at hx, fun x hx => hz x (by simpa using hx)⟩
theorem find_at {key : List UInt8} {l : List E} (hl : Rise l) (hb : findB key l = true) : ∃ e, l[findC key l]? = some e ∧ e.key = key := by
  have hlt := findC_lt hb
  refine ⟨l[findC key l], List.getElem?_eq_getElem hlt, ?_⟩
  obtain ⟨e, he, hk⟩ := findB_iff.1 hb
  obtain ⟨h1, h2⟩ := find_split (key := key) hl
  have hd : l.drop (findC key l) = l[findC key l] :: l.drop (findC key l + 1) := List.drop_eq_getElem_cons hlt
  have hed : e ∈ l.drop (findC key l) := by
    rw [← List.take_append_drop (findC key l) l] at he
    rcases List.mem_append.1 he with h | h
    · have := h1 e h
      rw [hk, sLess_irrefl] at this; cases this
    · exact h
  have hge := h2 l[findC key l] (by rw [hd]; exact List.mem_cons_self ..)
  rw [hd] at hed
  rcases List.mem_cons.1 hed with h | h
  · rw [← h]; exact hk
  · have hr : Rise (l[findC key l] :: l.drop (findC key l + 1)) := by
      rw [← hd]; exact List.Pairwise.sublist (List.drop_sublist ..) hl
    have := hr.head e h
    rw [hk, hge] at this; cases this
/-- An entry of a rising list is found. -/
theorem find_mem {l : List E} (hl : Rise l) {e : E} (he : e ∈ l) : findB e.key l = true ∧ l[findC e.key l]? = some e := by
  have hb : findB e.key l = true := findB_iff.2 ⟨e, he, rfl⟩
  obtain ⟨x, h1, h2⟩ := find_at hl hb
  have := hl.eq_of_key (List.mem_of_getElem? h1) he h2
  rw [this] at h1
  exact ⟨hb, h1⟩

theorem rise_keys {l : List E} : Rise l ↔ (l.map E.key).Pairwise fun a b => sLess a b = true := by
  unfold Rise; rw [List.pairwise_map]
theorem putE_rise {out : List E} {e : E} (h : Rise out) : Rise (putE out e) := by
  unfold putE
  split
  · rename_i hb
    obtain ⟨x, h1, h2⟩ := find_at h hb
    split
    · rw [rise_keys, List.map_set]
      have : (out.map E.key).set (findC e.key out) e.key = out.map E.key := set_same (by rw [List.getElem?_map, h1]; simp [h2])
      rw [this]; exact rise_keys.1 h
    · exact h
  · rename_i hb
    obtain ⟨h1, h2⟩ := find_split (key := e.key) h
    have h3 : ∀ x, x ∈ out.drop (findC e.key out) → sLess e.key x.key = true := fun x hx => by
      have h4 : Le e.key x.key := h2 x hx
      rcases h4.eq with h5 | h5
      · exact h5
      · exact absurd (findB_iff.2 ⟨x, List.mem_of_mem_drop hx, h5.symm⟩) hb
    unfold Rise at h ⊢
    rw [List.append_assoc, List.pairwise_append]
    refine ⟨List.Pairwise.sublist (List.take_sublist ..) h, ?_, fun a ha b hb' => ?_⟩
    · rw [List.singleton_append, List.pairwise_cons]
      exact ⟨h3, List.Pairwise.sublist (List.drop_sublist ..) h⟩
    · rw [List.singleton_append] at hb'
      rcases List.mem_cons.1 hb' with rfl | hb'
      · exact h1 a ha
      · exact sLess_trans (h1 a ha) (h3 b hb')
theorem foldG_rise : ∀ (r out : List E), Rise out → Rise (foldG out r)
  | [], _, h => h
  | e :: r, out, h => foldG_rise r (putE out e) (putE_rise h)
theorem foldF_rise (l : List E) : Rise (foldF l) := foldG_rise l [] List.Pairwise.nil
theorem foldF_len (l : List E) : (foldF l).length ≤ l.length := by
  have := foldG_len l []
  rw [List.length_nil, Nat.zero_add] at this
  exact this

def risen (ls : List (List E)) : List (List E) := (small ls).map foldF
theorem risen_rise {ls : List (List E)} : ∀ l, l ∈ risen ls → Rise l := fun l hl => by
  obtain ⟨x, _, rfl⟩ := List.mem_map.1 hl
  exact foldF_rise x
theorem risen_len (ls : List (List E)) : (risen ls).length ≤ 12 := by
  unfold risen; rw [List.length_map]; exact small_len ls
theorem risen_each {ls : List (List E)} : ∀ l, l ∈ risen ls → l.length ≤ 60 := fun l hl => by
  unfold risen small at hl
  obtain ⟨x, hx, rfl⟩ := List.mem_map.1 hl
  obtain ⟨y, _, rfl⟩ := List.mem_map.1 hx
  have := foldF_len (y.take 60)
  rw [List.length_take] at this; omega
theorem risen_tot (ls : List (List E)) : tot (risen ls) ≤ 720 := by
  have h := tot_bound (k := 60) (ls := risen ls) risen_each
  have := risen_len ls
  omega
theorem mergeL_len (ls : List (List E)) (bot : Bool) : (mergeL ls bot).length ≤ tot ls := mergeF_len _ _ _

/-- What is merged in two goes is merged in one. -/
theorem merge_parts {ls : List (List E)} (h : ∀ l, l ∈ ls → Rise l) (k : Nat) (bot : Bool) : mergeL [mergeL (ls.take k) false, mergeL (ls.drop k) false] bot = mergeL ls bot := by
  have h1 : ∀ l, l ∈ ls.take k → Rise l := fun l hl => h l (List.mem_of_mem_take hl)
  have h2 : ∀ l, l ∈ ls.drop k → Rise l := fun l hl => h l (List.mem_of_mem_drop hl)
  have h3 : ∀ l, l ∈ [mergeL (ls.take k) false, mergeL (ls.drop k) false] → Rise l := fun l hl => by
    simp at hl; rcases hl with rfl | rfl
    · exact mergeL_rise h1
    · exact mergeL_rise h2
  refine (mergeL_rise h3).ext (mergeL_rise h) fun e => ?_
  rw [mergeL_mem h3, mergeL_mem h]
  have : look e.key [mergeL (ls.take k) false, mergeL (ls.drop k) false] = look e.key ls := by
    rw [look_cons, look_cons, getE_merge h1, getE_merge h2]
    conv => rhs; rw [← List.take_append_drop k ls, look_append]
    cases look e.key (ls.drop k) <;> rfl
  rw [this]
theorem merge_again {ls : List (List E)} (h : ∀ l, l ∈ ls → Rise l) (bot : Bool) : mergeL [mergeL ls bot] bot = mergeL ls bot := by
  have h3 : ∀ l, l ∈ [mergeL ls bot] → Rise l := fun l hl => by
    simp at hl; rw [hl]; exact mergeL_rise h
  refine (mergeL_rise h3).ext (mergeL_rise h) fun e => ?_
  rw [mergeL_mem h3, look_cons]
  constructor
  · rintro ⟨h1, h2⟩
    cases hg : getE e.key (mergeL ls bot) with
    | none => rw [hg] at h1; cases h1
    | some x => rw [hg] at h1; cases h1; exact (getE_mem hg).1
  · intro he
    rw [(getE_iff (mergeL_rise h)).2 he]
    exact ⟨rfl, ((mergeL_mem h).1 he).2⟩
end Go.Am
