/- The law MergeParts: it holds. -/
import Derived.Test.YtcnmdodgjbfmdaaMfA
import Derived.Test.YtcnmdodgjbfmdaaMrA
import Derived.Test.YtcnmdodgjbfmdaaAg5
namespace Go.Am
open Go

section
variable {B : Base} {n : Nat} {H G : Heap} {Q : AV → Heap → Prop}

theorem ls_take {x v : AV} {ts : List (AV × List E)} {k : Nat} (h : Ls B G x ts) (hv : Sl B G 1 v ((ts.map fun t => [t.1]).take k)) : Ls B G v (ts.take k) := ⟨by rw [List.map_take]; exact hv, fun t ht => h.2 t (List.mem_of_mem_take ht)⟩
theorem ls_drop {x v : AV} {ts : List (AV × List E)} {k : Nat} (h : Ls B G x ts) (hv : Sl B G 1 v ((ts.map fun t => [t.1]).drop k)) : Ls B G v (ts.drop k) := ⟨by rw [List.map_drop]; exact hv, fun t ht => h.2 t (List.mem_of_mem_drop ht)⟩
theorem ls_two {v w : AV} {a b : List E} (ha : Sl B G 4 v (a.map E.row)) (hb : Sl B G 4 w (b.map E.row)) : layParts [.nils, .nils] [(0, 1, v), (1, 1, w)] = some [v, w] ∧ Ls B (G ++ [.arr [v, w]]) (.slice (.new G.length) 0 2 1 (some 2)) [(v, a), (w, b)] := by
  refine ⟨by simp only [layParts, sl_cells ha, sl_cells hb]; rfl, sl_rows rfl rfl (fun r hr => by simp at hr; rcases hr with rfl | rfl <;> rfl), fun t ht => ?_⟩
  simp at ht; rcases ht with rfl | rfl
  · exact ha.pre
  · exact hb.pre
theorem ls_one {v : AV} {a : List E} (ha : Sl B G 4 v (a.map E.row)) : layParts [.nils] [(0, 1, v)] = some [v] ∧ Ls B (G ++ [.arr [v]]) (.slice (.new G.length) 0 1 1 (some 1)) [(v, a)] := by
  refine ⟨by simp only [layParts, sl_cells ha]; rfl, sl_rows rfl rfl (fun r hr => by simp at hr; rcases hr with rfl; rfl), fun t ht => ?_⟩
  simp at ht; rcases ht with rfl
  exact ha.pre

/-- Merge, of lists that stand in order. -/
theorem f11_L {x : AV} {ts : List (AV × List E)} {bot : Bool} (hx : Ls B H x ts) (hl : ts.length ≤ 100) (ht : tot (ts.map (·.2)) ≤ 10000) (hq : ∀ v L, Sl B (H ++ L) 4 v ((mergeL (ts.map (·.2)) bot).map E.row) → Q v (H ++ L)) : Cl B 11 [x, .bool bot] H Q := by
  have hbig : maxBytes = 140737488355328 := rfl
  exact f11_ok hx (by omega) (by omega) fun v L g => hq v L g.sl

theorem tot_take_drop (k : Nat) : ∀ ls : List (List E), tot (ls.take k) ≤ tot ls ∧ tot (ls.drop k) ≤ tot ls := fun ls => by
  have : tot (ls.take k) + tot (ls.drop k) = tot ls := by
    unfold tot
    conv => rhs; rw [← List.take_append_drop k ls, List.map_append, List.sum_append_nat]
  omega

theorem f5_ok {x : AV} {ts : List (AV × List E)} {a : Int} {bot : Bool} (hx : Ls B H x ts) (ha : -9223372036854775808 ≤ a ∧ a ≤ 9223372036854775807) (hq : ∀ G, Q (.bool true) G) : Cl B 5 [x, .int .i64 a, .bool bot] H Q := by
  refine f5_in fun n cl hn hcl hH hA => J5_11_in ?_
  subst hcl
  refine f9_ok fun L1 => tyK_bool (J5_10_in ?_)
  refine f14_ok hx.pre fun j L2 ts1 o1 e1 => wV_live _ _ _ _ (J5_9_in ?_)
  have hls : ts1.map (·.2) = risen (ts.map (·.2)) := e1
  have hown := o1.ls (B := B)
  have hl1 : ts1.length ≤ 12 := by
    have := congrArg List.length hls
    rw [List.length_map] at this
    have := risen_len (ts.map (·.2))
    omega
  have ht1 : tot (ts1.map (·.2)) ≤ 720 := by rw [hls]; exact risen_tot _
  have hrise : ∀ l, l ∈ ts1.map (·.2) → Rise l := by rw [hls]; exact risen_rise
  generalize H ++ L1 ++ L2 = G2 at hown ⊢
  have hcap : capOK (wV j 1 (ts1.map lrow)) := capN_wV.ok
  generalize wV j 1 (ts1.map lrow) = x8 at hown hcap ⊢
  have hlen : lenOf x8 = some ts1.length := by have := hown.1.len; rwa [List.length_map] at this
  -- the cut
  have main : ∀ k : Nat, k ≤ ts1.length → J5_7 B (Cl B) n (k : Int) bot (.bool true) x8 G2 Q := fun k hk => by
    refine J5_7_in (op_prefix hown.1 rfl (by rw [List.length_map]; exact hk) fun v8 h8 _ => ?_)
    have htd := tot_take_drop k (ts1.map (·.2))
    refine f11_L (ls_take hown h8) (by rw [List.length_take]; omega) (by rw [List.map_take]; omega) fun va La sa => Sl.live sa _ (J5_6_in ?_)
    obtain ⟨v12, s1, s2, _⟩ := suf_of hown.1 hcap (j := k) (by rw [List.length_map]; exact hk)
    rw [List.length_map] at s1
    refine op_sl2 hlen s1 ?_
    refine f11_L (ls_drop hown.pre s2.pre) (by rw [List.length_drop]; omega) (by rw [List.map_drop]; omega) fun vb Lb sb => Sl.live sb _ (J5_5_in ?_)
    have hown2 := (hown.pre (L := La)).pre (L := Lb)
    refine f11_L hown2 (by omega) (by omega) fun vc Lc sc => Sl.live sc _ (J5_4_in ?_)
    have sa' := (sa.pre (L := Lb)).pre (L := Lc)
    have sb' := sb.pre (L := Lc)
    generalize G2 ++ La ++ Lb ++ Lc = G3 at sa' sb' sc ⊢
    rw [List.map_take] at sa'
    rw [List.map_drop] at sb'
    obtain ⟨y1, y2⟩ := ls_two sa' sb'
    rw [y1, ob_some]
    refine slK_in ?_
    have hla := mergeL_len ((ts1.map (·.2)).take k) false
    have hlb := mergeL_len ((ts1.map (·.2)).drop k) false
    have hlc := mergeL_len (ts1.map (·.2)) bot
    have ht2 : tot [mergeL ((ts1.map (·.2)).take k) false, mergeL ((ts1.map (·.2)).drop k) false] ≤ 1440 := by
      rw [tot_cons, tot_cons]; simp only [tot, List.map_nil, List.sum_nil]; unfold tot at htd ht1 hla hlb; omega
    refine f11_L y2 (by simp) (by simp only [List.map_cons, List.map_nil]; omega) fun vd Ld sd => Sl.live sd _ (J5_3_in ?_)
    simp only [List.map_cons, List.map_nil] at sd
    rw [merge_parts hrise k bot] at sd
    have sc' := (sc.pre (L := [.arr [va, vb]])).pre (L := Ld)
    generalize G3 ++ [AObj.arr [va, vb]] ++ Ld = G4 at sc' sd ⊢
    obtain ⟨z1, z2⟩ := ls_one sc'
    rw [z1, ob_some]
    refine slK_in ?_
    have ht3 : tot [mergeL (ts1.map (·.2)) bot] ≤ 720 := by
      rw [tot_cons]; simp only [tot, List.map_nil, List.sum_nil]; unfold tot at ht1 hlc; omega
    refine f11_L z2 (by simp) (by simp only [List.map_cons, List.map_nil]; omega) fun ve Le' se => Sl.live se _ (J5_2_in ?_)
    simp only [List.map_cons, List.map_nil] at se
    rw [merge_again hrise bot] at se
    have sc2 := (sc'.pre (L := [.arr [vc]])).pre (L := Le')
    have sd2 := (sd.pre (L := [.arr [vc]])).pre (L := Le')
    refine f12_ok sc2 sd2 (by omega) (tyK_bool (J5_1_in ?_))
    rw [decide_eq_true rfl]
    refine f12_ok sc2 se (by omega) (tyK_bool (J5_0_in ?_))
    rw [decide_eq_true rfl, pGuard_bool, bs_true, pGuard_bool, bs_true]
    exact tidy_none (hq _)
  have go : ∀ b : Int, 0 ≤ b → b ≤ 9223372036854775807 → J5_8 B (Cl B) n b bot (.bool true) x8 G2 Q := fun b h0 h1 => by
    refine J5_8_in ?_
    rw [hlen, ob_some, w64 (by omega), if_neg (by omega)]
    obtain ⟨m, rfl⟩ : ∃ m : Nat, b = (m : Int) := ⟨b.toNat, by omega⟩
    have e : Int.tmod (m : Int) ((ts1.length : Int) + 1) = ((m % (ts1.length + 1) : Nat) : Int) := rfl
    rw [e]
    exact main _ (Nat.le_of_lt_succ (Nat.mod_lt _ (Nat.succ_pos _)))
  refine bs_dec (fun h => ?_) fun h => go a (by omega) (by omega)
  rw [w64 (n := a + 1) (by omega), w64 (by omega)]
  exact go _ (by omega) (by omega)

end
end Go.Am
