/- The law MergeTakes: it holds. -/
import Derived.Test.YtcnmdodgjbfmdaaMrA
import Derived.Test.YtcnmdodgjbfmdaaAg3
namespace Go.Am
open Go

theorem tot_bound {k : Nat} : ∀ {ls : List (List E)}, (∀ l, l ∈ ls → l.length ≤ k) → tot ls ≤ ls.length * k
  | [], _ => by simp [tot]
  | l :: r, h => by
    rw [tot_cons, List.length_cons, Nat.add_mul, Nat.one_mul]
    have h1 := h l (List.mem_cons_self ..)
    have h2 := tot_bound (ls := r) fun x hx => h x (List.mem_cons_of_mem _ hx)
    omega
theorem small_len (ls : List (List E)) : (small ls).length ≤ 12 := by
  unfold small; rw [List.length_map, List.length_take]; omega
theorem small_tot (ls : List (List E)) : tot (small ls) ≤ 720 := by
  have h := tot_bound (k := 60) (ls := small ls) fun l hl => by
    unfold small at hl
    obtain ⟨x, _, rfl⟩ := List.mem_map.1 hl
    rw [List.length_take]; omega
  have := small_len ls
  omega
theorem small_get {ls : List (List E)} {i : Nat} {l : List E} (h : (small ls)[i]? = some l) : ∃ l0, ls[i]? = some l0 ∧ l = l0.take 60 := by
  unfold small at h
  rw [List.getElem?_map, Option.map_eq_some_iff] at h
  obtain ⟨l0, h1, rfl⟩ := h
  rw [List.getElem?_take] at h1
  split at h1
  · exact ⟨l0, h1, rfl⟩
  · cases h1

section
variable {B : Base} {n : Nat} {H G : Heap} {Q : AV → Heap → Prop}

theorem f3_ok {x : AV} {ts : List (AV × List E)} {bot : Bool} (hx : Ls B H x ts) (hq : ∀ G, Q (.bool true) G) : Cl B 3 [x, .bool bot] H Q := by
  have hbig : maxBytes = 140737488355328 := rfl
  refine f3_in fun n cl hn hcl hH hA => J3_11_in ?_
  subst hcl
  refine f9_ok fun L1 => tyK_bool (J3_10_in ?_)
  have hx1 := hx.pre (L := L1)
  generalize H ++ L1 = G1 at hx1 ⊢
  refine f10_ok hx1 fun j L2 ts1 o1 e1 => wV_live _ _ _ _ (J3_9_in ?_)
  have hx2 := hx1.pre (L := L2)
  have hl1 : ts1.length ≤ 12 := by
    have := congrArg List.length e1
    rw [List.length_map] at this
    have := small_len (ts.map (·.2))
    omega
  have ht1 : tot (ts1.map (·.2)) ≤ 720 := by rw [e1]; exact small_tot _
  have hown := o1.ls (B := B)
  generalize hG2 : G1 ++ L2 = G2 at hx2 o1 hown ⊢
  refine f11_ok hown (by omega) (by omega) fun vl L3 g3 => Sl.live (g3.sl (B := B)) _ (J3_8_in ?_)
  have hx3 := hx2.pre (L := L3)
  have hres : ((mergeF (tot (ts1.map (·.2))) (ts1.map (·.2)) bot).map E.row).length ≤ 720 := by
    rw [List.length_map]; exact Nat.le_trans (mergeF_len _ _ _) ht1
  refine f10_ok hx3 fun j4 L4 ts4 o4 e4 => wV_live _ _ _ _ ?_
  have hl4 : ts4.length ≤ 12 := by
    have := congrArg List.length e4
    rw [List.length_map] at this
    have := small_len (ts.map (·.2))
    omega
  have ht4 : tot (ts4.map (·.2)) ≤ 720 := by rw [e4]; exact small_tot _
  refine f13_ok o4.sl (o4.lse (B := B)) (by omega) (by omega) fun v5 L5 s5 => Sl.live s5 _ ?_
  have hsame : ts4.map (·.2) = ts1.map (·.2) := by rw [e4, e1]
  rw [hsame] at s5
  have s3 : Sl B (G2 ++ L3 ++ L4 ++ L5) 4 vl ((mergeF (tot (ts1.map (·.2))) (ts1.map (·.2)) bot).map E.row) := ((g3.sl (B := B)).pre (L := L4)).pre (L := L5)
  refine f12_ok s3 s5 (by rw [List.length_map] at hres; omega) (tyK_bool (J3_7_in ?_))
  rw [decide_eq_true rfl, pBool_bool]
  refine bs_yes rfl ?_
  -- what was handed in stays
  have still : ∀ (M : Heap), (∃ L, M = G2 ++ L) → J3_6 B (Cl B) n x (.bool true) (wV j 1 (ts1.map lrow)) M Q := fun M hM => by
    obtain ⟨L, rfl⟩ := hM
    refine J3_6_in ?_
    have hxM := hx2.pre (L := L)
    have hoM := hown.pre (L := L)
    have go : ∀ (f i : Nat), i + f = ts1.length → L3_4 B (Cl B) n x (.bool true) (wV j 1 (ts1.map lrow)) (i : Int) (G2 ++ L) Q := by
      intro f
      induction f with
      | zero =>
        intro i hi
        refine L3_4_in (ACall.cle B table) ?_
        rw [hoM.1.len, ob_some, List.length_map]
        exact bs_no (decide_eq_false (by omega)) (J3_5_in (tidy_none (hq _)))
      | succ f ih =>
        intro i hi
        have hlt : i < ts1.length := by omega
        refine L3_4_in (ACall.cle B table) ?_
        rw [hoM.1.len, ob_some, List.length_map]
        refine bs_yes (decide_eq_true (by omega)) (J3_3_in ?_)
        have g1 : ts1[i]? = some ts1[i] := List.getElem?_eq_getElem hlt
        obtain ⟨l0, h0, hl0⟩ := small_get (ls := ts.map (·.2)) (i := i) (l := ts1[i].2) (by rw [← e1, List.getElem?_map, g1]; rfl)
        rw [List.getElem?_map, Option.map_eq_some_iff] at h0
        obtain ⟨t0, ht0, rfl⟩ := h0
        have hr1 : (ts1.map fun t : AV × List E => [t.1])[i]? = some [ts1[i].1] := by rw [List.getElem?_map, g1]; rfl
        have hr0 : (ts.map fun t : AV × List E => [t.1])[i]? = some [t0.1] := by rw [List.getElem?_map, ht0]; rfl
        have hil0 : i < ts.length := (List.getElem?_eq_some_iff.1 ht0).1
        have s1 := hoM.2 _ (List.getElem_mem hlt)
        have s0 := hxM.2 t0 (List.mem_of_getElem? ht0)
        refine op_idx hoM.1 (by rw [List.length_map]; exact hlt) ?_
        rw [(hoM.1.el hr1).peek0 (v := ts1[i].1) rfl, ob_some]
        refine Sl.live s1 _ (op_idx hxM.1 (by rw [List.length_map]; exact hil0) ?_)
        rw [(hxM.1.el hr0).peek0 (v := t0.1) rfl, ob_some]
        refine Sl.live s0 _ (op_idx hxM.1 (by rw [List.length_map]; exact hil0) ?_)
        rw [(hxM.1.el hr0).peek0 (v := t0.1) rfl, ob_some]
        refine Sl.live s0 _ ?_
        rw [s0.len, ob_some, List.length_map, show (60 : Int) = ((60 : Nat) : Int) from rfl, minInts2]
        refine op_prefix s0 rfl (by rw [List.length_map]; omega) fun v' hv' _ => ?_
        have htk : (t0.2.map E.row).take (min t0.2.length 60) = (t0.2.take 60).map E.row := by
          rw [List.map_take, Nat.min_comm, ← List.length_map (f := E.row)]
          exact (List.take_eq_take_min ..).symm
        rw [htk, ← hl0] at hv'
        have hlen1 : ts1[i].2.length ≤ 60 := by rw [hl0, List.length_take]; omega
        refine f12_ok s1 hv' (by omega) (tyK_bool (J3_2_in ?_))
        rw [decide_eq_true rfl, pBool_bool]
        refine bs_yes rfl ?_
        rw [w64 (by omega)]
        exact ih (i + 1) (by omega)
    exact go ts1.length 0 (by omega)
  -- the answer is written
  obtain ⟨_, ⟨rfl, hnil⟩ | ⟨j3, rfl, hg3⟩⟩ := g3
  · refine L3_1_in (ACall.cle B table) ?_
    rw [show lenOf .nils = some 0 from rfl, ob_some]
    refine bs_no (by decide) (still _ ⟨L3 ++ (L4 ++ L5), by rw [List.append_assoc, List.append_assoc]⟩)
  · generalize hm : ((mergeF (tot (ts1.map (·.2))) (ts1.map (·.2)) bot).map E.row).length = m at hres ⊢
    have hfl : ((mergeF (tot (ts1.map (·.2))) (ts1.map (·.2)) bot).map E.row).flatten.length = m * 4 := by rw [flatten_len (E.rows_len _), hm]
    have go : ∀ (f i : Nat) (L : List AObj) (c : List AV), i + f = m → L[j3]? = some (.arr c) → c.length = m * 4 → L3_1 B (Cl B) n x (.bool true) (wV j 1 (ts1.map lrow)) (.slice (.new (G2.length + j3)) 0 m 4 none) (i : Int) (G2 ++ L) Q := by
      intro f
      induction f with
      | zero =>
        intro i L c hi hL hc
        refine L3_1_in (ACall.cle B table) ?_
        rw [show lenOf (.slice (.new (G2.length + j3)) 0 m 4 none) = some m from rfl, ob_some]
        exact bs_no (decide_eq_false (by omega)) (still _ ⟨L, rfl⟩)
      | succ f ih =>
        intro i L c hi hL hc
        refine L3_1_in (ACall.cle B table) ?_
        rw [show lenOf (.slice (.new (G2.length + j3)) 0 m 4 none) = some m from rfl, ob_some]
        refine bs_yes (decide_eq_true (by omega)) (J3_0_in ?_)
        rw [show layParts [(.str []), (.str []), (.bool false), (.int .i64 0)] [(0, 1, (.str [63]))] = some [.str [63], .str [], .bool false, .int .i64 0] from rfl, ob_some]
        have eix : ∀ {K : AV → Heap → Prop}, K (.ptr (some (.new (G2.length + j3), i * 4))) (G2 ++ L) → aop B E0 (G2 ++ L) K (.indexPtr 4 (.const (.slice (.new (G2.length + j3)) 0 m 4 none)) (.const (.int .i64 (i : Int)))) := fun {K} hk => by
          simp only [aop, opK, Opd.look, ob_some, pAny_int]
          rw [if_pos ⟨trivial, by omega, by omega⟩]
          simpa using hk
        refine eix (op_st_arr (n := 4) (vs := [.str [63], .str [], .bool false, .int .i64 0]) rfl rfl (by rw [get_app]; exact hL) (by omega) ?_)
        rw [set_app, w64 (by omega)]
        have hjl : j3 < L.length := (List.getElem?_eq_some_iff.1 hL).1
        refine ih (i + 1) _ (putAt c (i * 4) [.str [63], .str [], .bool false, .int .i64 0]) (by omega) (get_set hjl) ?_
        simp only [putAt, List.length_append, List.length_take, List.length_drop, List.length_cons, List.length_nil]
        omega
    have e : G2 ++ L3 ++ L4 ++ L5 = G2 ++ (L3 ++ (L4 ++ L5)) := by rw [List.append_assoc, List.append_assoc]
    rw [e]
    exact go m 0 _ _ (by omega) (get_pre hg3) hfl

end
end Go.Am
