/- The law PickAlone: its walk. -/
import Derived.Test.YtdgjmffnjkimoaaPa1
import Derived.Test.YtdgjmffnjkimoaaAg7
namespace Go.Am
open Go

theorem wV_len (k es : Nat) (rows : List (List AV)) : lenOf (wV k es rows) = some rows.length := by
  unfold wV; split
  · rename_i h; subst h; rfl
  · rfl
/-- The end of a slice. -/
theorem op_suffixW {B : Base} {G : Heap} {K : AV → Heap → Prop} {k es j : Nat} {a : Int} {rows : List (List AV)} (hg : G[k]? = some (.arr rows.flatten)) (hl : ∀ r, r ∈ rows → r.length = es) (ha : a = (j : Int)) (hj : j ≤ rows.length)
    (h : ∀ v', Sl B G es v' (rows.drop j) → K v' G) : aop B E0 G K (.sliceL es (.const (wV k es rows)) (some (.const (.int .i64 a))) none none) := by
  subst ha
  have hfl : (rows.drop j).flatten = rows.flatten.drop (j * es) := by
    have h1 : rows.flatten = (rows.take j).flatten ++ (rows.drop j).flatten := by rw [← List.flatten_append, List.take_append_drop]
    have h2 : (rows.take j).flatten.length = j * es := by
      rw [flatten_len (fun r hr => hl r (List.mem_of_mem_take hr)), List.length_take]; congr 1; omega
    rw [h1, ← h2, List.drop_left']
    rfl
  have hl' : ∀ r, r ∈ rows.drop j → r.length = es := fun r hr => hl r (List.mem_of_mem_drop hr)
  have hmul : j * es ≤ rows.length * es := Nat.mul_le_mul_right es hj
  have hc : cellsAt B G (.new k) (j * es) ((rows.drop j).length * es) = some (rows.drop j).flatten := by
    refine cellsAt_iff'.2 ⟨rows.flatten, by simp only [cellsOf, hg], ?_, ?_⟩
    · rw [flatten_len hl, List.length_drop, Nat.sub_mul]; omega
    · rw [hfl, List.length_drop, Nat.sub_mul, ← flatten_len hl, ← List.length_drop, List.take_length]
  simp only [aop, opK, Opd.look, ob_some, wV_len, optK, pAny_int]
  by_cases h0 : rows = []
  · subst h0
    have : j = 0 := by simpa using hj
    subst this
    have e : sliceOf es (wV k es []) ((0 : Nat) : Int) ((([] : List (List AV)).length : Nat) : Int) = some (.slice (.new k) 0 0 es (some 0)) := by
      show sliceOf es (.slice (.new k) 0 0 es (some 0)) 0 0 = _
      simp [sliceOf]
    rw [e, ob_some]
    exact h _ ⟨hl', .inr ⟨_, _, _, rfl, by simpa using hc⟩⟩
  · have e : wV k es rows = .slice (.new k) 0 rows.length es none := if_neg h0
    rw [e]
    simp only [sliceOf]
    rw [if_pos ⟨trivial, by omega, by omega, by omega⟩, ob_some]
    refine h _ ⟨hl', .inr ⟨.new k, 0 + j * es, none, ?_, ?_⟩⟩
    · simp
    · rw [Nat.zero_add]; exact hc
/-- Append, of any number of rows. -/
theorem op_appendN {B : Base} {G : Heap} {K : AV → Heap → Prop} {k es bytes : Nat} {rows1 rows2 : List (List AV)} {u : AV} (hg : G[k]? = some (.arr rows1.flatten)) (h1 : ∀ r, r ∈ rows1 → r.length = es) (hu : Sl B G es u rows2) (hb : (rows1.length + rows2.length) * bytes ≤ maxBytes)
    (hk : ∀ k' o L, k ≤ k' → (G.set k o ++ L)[k']? = some (.arr (rows1 ++ rows2).flatten) → K (wV k' es (rows1 ++ rows2)) (G.set k o ++ L)) : aop B E0 G K (.append es bytes (.const (wV k es rows1)) (.const u)) := by
  by_cases hne : rows2 = []
  · subst hne
    have h2 := hk k (.arr rows1.flatten) [] (Nat.le_refl _)
    rw [set_same hg, List.append_nil, List.append_nil] at h2
    simp only [aop, opK, Opd.look, ob_some, hu.len, hu.elems]
    rw [if_pos (by simp)]
    have : appendTo B G es bytes (wV k es rows1) 0 ([] : List AV) = some (wV k es rows1, G) := by
      unfold wV; split <;> rfl
    show ob (appendTo B G es bytes (wV k es rows1) 0 ([] : List AV)) _
    rw [this, ob_some]
    exact h2 hg
  · refine op_appendE hg h1 hu hne hb fun o => ?_
    have hlt := lt_of_get hg
    have e : (G.set k o).length = G.length := List.length_set
    refine hk G.length o _ (by omega) ?_
    rw [← e, get_app0]; rfl

section
variable {B : Base} {n : Nat} {H : Heap} {Q : AV → Heap → Prop} {l : List Tab}

theorem tidy_set {L M : Heap} {k : Nat} {o : AObj} {v : AV} (hn : n = H.length) (hH : LowH n H) (hv : Low n v) (hk : H.length ≤ k) (h : Q v H) : tidyK n Q v ((H ++ L).set k o ++ M) := by
  obtain ⟨j, rfl⟩ : ∃ j, k = H.length + j := ⟨k - H.length, by omega⟩
  rw [set_app, List.append_assoc]
  exact tidy_drop hn hH hv h

/-- One is taken away. -/
theorem f7_without {k : Nat} (hn : n = H.length) (hH : LowH n H) (hok : ∀ t ∈ l, t.Ok) (hsz : l.length ≤ 600) (hk : k < l.length) (hp : pickL l [0, 1, 2] = none) (h : Q (.bool true) H) :
    J7_3 B (Cl B) n (wV H.length 36 (l.map Tab.row)) (.bool true) (k : Int) (H ++ [.arr (l.map Tab.row).flatten]) Q := by
  have hg : (H ++ [AObj.arr (l.map Tab.row).flatten])[H.length]? = some (.arr (l.map Tab.row).flatten) := by rw [get_app0]; rfl
  have hs : ∀ {L}, Sl B (H ++ [AObj.arr (l.map Tab.row).flatten] ++ L) 36 (wV H.length 36 (l.map Tab.row)) (l.map Tab.row) := fun {L} => (wV_sl hg (tabs_len hok)).pre
  have hok1 : ∀ t ∈ l.take k, t.Ok := fun t ht => hok t (List.mem_of_mem_take ht)
  have hok2 : ∀ t ∈ l.drop (k + 1), t.Ok := fun t ht => hok t (List.mem_of_mem_drop ht)
  refine J7_3_in ?_
  rw [show layParts [] [] = some [] from rfl, ob_some]
  refine slK_in (op_prefix (k := k) hs rfl (by simp; omega) fun v' hv' _ => ?_)
  rw [← List.map_take] at hv'
  refine op_appendN (k := (H ++ [AObj.arr (l.map Tab.row).flatten]).length) (rows1 := []) (by rw [get_app0]; rfl) (fun r hr => by simp at hr) hv' (by simp [maxBytes]; omega) fun k1 o1 L1 hk1 hg1 => ?_
  rw [List.nil_append] at hg1 ⊢
  have hlen1 : (H ++ [AObj.arr (l.map Tab.row).flatten]).length = H.length + 1 := by simp
  rw [hlen1] at hk1 hg1 ⊢
  have e1 : (H ++ [AObj.arr (l.map Tab.row).flatten] ++ [AObj.arr []]).set (H.length + 1) o1 ++ L1 = H ++ ([.arr (l.map Tab.row).flatten, o1] ++ L1) := by
    rw [List.append_assoc, set_app, List.append_assoc]; rfl
  rw [e1] at hg1 ⊢
  refine J7_2_in ?_
  rw [w64 (n := (k : Int) + 1) (by omega)]
  refine op_suffixW (j := k + 1) (by rw [get_app0]; rfl) (tabs_len hok) (by omega) (by simp; omega) fun u hu => ?_
  rw [← List.map_drop] at hu
  refine op_appendN (k := k1) (rows1 := (l.take k).map Tab.row) hg1 (tabs_len hok1) hu (by simp [maxBytes]; omega) fun k2 o2 L2 hk2 hg2 => ?_
  rw [← List.map_append] at hg2 ⊢
  have hok3 := ok_app hok1 hok2
  refine J7_1_in (f10_ok (wV_sl hg2 (tabs_len hok3)) hok3 (by simp; omega) (fun _ => ?_) fun lv x hx => ?_)
  · refine op_ext3 live_nils (J7_0_in ?_)
    rw [pGuard_bool, bs_true]
    exact tidy_set hn hH low_bool (by omega) h
  · rw [pick_less hp] at hx; cases hx
end

theorem op_not {B : Base} {H : Heap} {K : AV → Heap → Prop} {b : Bool} (h : K (.bool (!b)) H) : aop B E0 H K (.not (.const (.bool b))) := by
  simp only [aop, opK, Opd.look, ob_some, pBool_bool]
  cases b <;> exact h

end Go.Am
