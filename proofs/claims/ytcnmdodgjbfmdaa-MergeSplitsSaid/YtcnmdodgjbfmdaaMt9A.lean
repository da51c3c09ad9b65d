/- The law MergeSplits: from the start. -/
import Derived.Test.YtcnmdodgjbfmdaaMt6A
namespace Go.Am
open Go

section
variable {B : Base} {n : Nat} {H G : Heap} {Q : AV → Heap → Prop}

theorem f6_ok {x : AV} {l0 : List E} (hx : Sl B H 4 x (l0.map E.row)) (hc : capOK x) (hq : ∀ G, Q (.bool true) G) : Cl B 6 [x] H Q := by
  have hbig : maxBytes = 140737488355328 := rfl
  refine f6_in fun n cl hn hcl hH hA => J6_17_in ?_
  subst hcl
  refine f9_ok fun L1 => tyK_bool (J6_16_in ?_)
  have hx1 := hx.pre (L := L1)
  generalize H ++ L1 = H1 at hx1 ⊢
  have hlen : lenOf x = some l0.length := by have := hx1.len; rwa [List.length_map] at this
  rw [hlen, ob_some, show (1000 : Int) = ((1000 : Nat) : Int) from rfl, minInts2]
  obtain ⟨x0, s1, s2, s3⟩ := cut_of hx1 hc (a := 0) (b := min l0.length 1000) (Nat.zero_le _) (by rw [List.length_map]; omega)
  have htk : ((l0.map E.row).drop 0).take (min l0.length 1000 - 0) = (l0.take 1000).map E.row := by
    rw [List.drop_zero, Nat.sub_zero, List.map_take, Nat.min_comm, ← List.length_map (f := E.row)]
    exact (List.take_eq_take_min ..).symm
  rw [htk] at s2
  refine op_sl hlen s1 (J6_15_in ?_)
  have hl : (l0.take 1000).length ≤ 1000 := by rw [List.length_take]; omega
  generalize l0.take 1000 = l at s2 hl
  rw [show layParts [] [] = some [] from rfl, ob_some]
  refine slK_in ?_
  have g0 : (H1 ++ [AObj.arr []])[H1.length]? = some (.arr ([] : List (List AV)).flatten) := by rw [get_app0]; rfl
  refine op_appendN (rows1 := []) (rows2 := l.map E.row) g0 (fun r hr => by cases hr) s2.pre (by rw [List.length_nil, List.length_map]; omega) fun k' o L hk hg => ?_
  rw [List.nil_append] at hg ⊢
  have e : (H1 ++ [AObj.arr []]).set H1.length o ++ L = H1 ++ (o :: L) := by rw [set_app0, List.append_assoc]; rfl
  rw [e] at hg ⊢
  have h4 : Sl B (H1 ++ o :: L) 4 (wV k' 4 (l.map E.row)) (l.map E.row) := wV_sl hg (E.rows_len _)
  have h0 := s2.pre (L := o :: L)
  have hc4 : capOK (wV k' 4 (l.map E.row)) := capN_wV.ok
  generalize H1 ++ o :: L = M1 at h4 h0 ⊢
  generalize wV k' 4 (l.map E.row) = x4 at h4 hc4 ⊢
  refine J6_14_in (f16_ok h4 hc4 (by omega) fun x5 L2 ts o5 e5 => Sl.live (o5.sl (B := B)) _ (J6_13_in ?_))
  have h02 := h0.pre (L := L2)
  refine f17_ok h02 s3 (by omega) fun j L3 ws o6 e6 => wV_live _ _ _ _ (J6_12_in ?_)
  have hev : Even l (ts.map (·.2)) := by rw [e5]; exact split_even l
  have hws : ws.map (·.2) = ts.map (·.2) := by rw [e5, e6]
  have hwlen : ws.length = ts.length := by have := congrArg List.length hws; rwa [List.length_map, List.length_map] at this
  have hs5 := (o5.sl (B := B)).pre (L := L3)
  rw [hs5.len, ob_some, o6.sl (B := B) |>.len, ob_some, List.length_map, List.length_map]
  refine bs_no (by simp [hwlen]) (J6_11_in (J6_10_in ?_))
  have hlen5 : ts.length = (l.length + 63) / 64 := by have := hev.len; rwa [List.length_map] at this
  have o5' := o5.grow L3
  have h03 := h02.pre (L := L3)
  have h43 := (h4.pre (L := L2)).pre (L := L3)
  rcases o5'.ov with ⟨rfl, rfl⟩ | ⟨js, rfl, hjs, hgj, hat⟩
  · -- nothing to cut
    have hlz : l = [] := by have := hev.flat; simpa using this.symm
    subst hlz
    refine L6_6_in (ACall.cle B table) ?_
    rw [show lenOf .nils = some 0 from rfl, ob_some]
    refine bs_no (by decide) (J6_9_in ?_)
    have hn0 : Sl B (M1 ++ L2 ++ L3) 4 .nils (([] : List E).map E.row) := ⟨fun r hr => by simp at hr, .inl ⟨rfl, rfl⟩⟩
    refine f12_ok hn0 h03 (by simp) (tyK_bool (J6_8_in ?_))
    rw [decide_eq_true rfl]
    refine f12_ok h43 h03 (by simp) (tyK_bool (J6_7_in ?_))
    rw [decide_eq_true rfl, pGuard_bool, bs_true, pGuard_bool, bs_true, pGuard_bool, bs_true]
    rw [show lenOf .nils = some 0 from rfl, ob_some, h03.len, ob_some, if_neg (by decide)]
    exact ib_eq_yes (by decide) (tidy_none (hq _))
  · have hjl := lt_of_get hgj
    have hjl2 : js < (M1 ++ L2).length := by
      rcases o5.ov with ⟨e, _⟩ | ⟨j2, e, _, hg2, _⟩
      · cases e
      · cases e; exact lt_of_get hg2
    have qlt : ∀ t, t ∈ ts → ∀ q, at? t.1 = some q → M1.length ≤ q ∧ q < (M1 ++ L2).length := fun t ht q hq' => by
      obtain ⟨p, a, b, c⟩ := o5.el t ht
      rw [a, at_wV] at hq'; cases hq'
      exact ⟨b, lt_of_get c⟩
    have hj6 := o6.hj
    have hM : M1.length ≤ (M1 ++ L2).length := by rw [List.length_append]; omega
    refine split_law_loop (H := M1) (N := (M1 ++ L2 ++ L3).length) (ts := ts) (ws := ws) h0 h4 hl hev hws hq hjs (fun t ht q hq' => (qlt t ht q hq').1) (by rw [List.length_append]; omega) ts.length 0 .nils (M1 ++ L2 ++ L3) (fun p => (M1 ++ L2 ++ L3)[p]?) (Nat.zero_add _) ⟨o5'.pre, fun p o hp => hp⟩ ⟨hgj, hjl, fun p t ht => ?_, o5.nd, ?_, fun w hw => ?_, fun v hv q hq' => ?_⟩ (Nat.le_refl _) ⟨fun r hr => by simp at hr, .inl ⟨rfl, by simp⟩⟩ fun j hj => by cases hj
    · obtain ⟨q, a, b, c⟩ := o5'.el t (List.mem_of_getElem? ht)
      refine ⟨q, _, a, lt_of_get c, fun e => hat t (List.mem_of_getElem? ht) (by rw [a, at_wV, e]), c, by rw [flatten_len (E.rows_len _), List.length_map], fun _ => rfl⟩
    · exact Kr.wV (lrow_len ws) (by rw [lrow_flat]; exact o6.gj)
    · obtain ⟨q, a, b, c, d⟩ := o6.el w hw
      rw [a]; exact Kr.wV (E.rows_len _) d
    · have hge : (M1 ++ L2).length ≤ q ∧ q < (M1 ++ L2 ++ L3).length := by
        rcases hv with rfl | ⟨w, hw, rfl⟩
        · rw [at_wV] at hq'; cases hq'
          exact ⟨hj6, lt_of_get o6.gj⟩
        · obtain ⟨p, a, b, c, d⟩ := o6.el w hw
          rw [a, at_wV] at hq'; cases hq'
          exact ⟨b, lt_of_get d⟩
      refine ⟨hge.2, by omega, fun t ht e => ?_⟩
      have := (qlt t ht q e).2
      omega

end
end Go.Am
