/- An observer tells the same when memory has one more object. -/
import Derived.Test.YtonfcbadaebjnaaAmD0
namespace Go.Am
open Go Go.RowKit

theorem get_ext {H : Heap} {x : AObj} {k : Nat} {o : AObj} (h : H[k]? = some o) : (H ++ [x])[k]? = some o := by
  have : k < H.length := by
    rcases Nat.lt_or_ge k H.length with h' | h'
    · exact h'
    · rw [List.getElem?_eq_none h'] at h; cases h
  rw [List.getElem?_append_left this]; exact h
theorem cellsOf_ext {B : Base} {H : Heap} {x : AObj} {o : Id} {c : List AV} (h : cellsOf B H o = some c) : cellsOf B (H ++ [x]) o = some c := by
  cases o with
  | base b s => exact h
  | new k =>
    simp only [cellsOf] at h ⊢
    cases hk : H[k]? with
    | none => rw [hk] at h; cases h
    | some y => rw [hk] at h; rw [get_ext hk]; exact h
theorem peek_ext {B : Base} {H : Heap} {x : AObj} {p v : AV} (h : peek B H p = some v) : peek B (H ++ [x]) p = some v := by
  unfold peek at h ⊢
  split at h
  · obtain ⟨c, h1, h2⟩ := Option.bind_eq_some_iff.1 h
    rw [cellsOf_ext h1]; exact h2
  · cases h
theorem cellsAt_ext {B : Base} {H : Heap} {x : AObj} {o : Id} {i n : Nat} {c : List AV} (h : cellsAt B H o i n = some c) : cellsAt B (H ++ [x]) o i n = some c := by
  unfold cellsAt at h ⊢
  split at h
  · rename_i d hd; rw [cellsOf_ext hd]; exact h
  · cases h
theorem peekN_ext {B : Base} {H : Heap} {x : AObj} {n : Nat} {p : AV} {c : List AV} (h : peekN B H n p = some c) : peekN B (H ++ [x]) n p = some c := by
  unfold peekN at h ⊢
  split at h
  · exact cellsAt_ext h
  · cases h
theorem elemsOf_ext {B : Base} {H : Heap} {x : AObj} {p : AV} {c : List AV} (h : elemsOf B H p = some c) : elemsOf B (H ++ [x]) p = some c := by
  unfold elemsOf at h ⊢
  split at h
  · exact h
  · exact cellsAt_ext h
  · cases h
theorem ptrEq_ext {H : Heap} {x : AObj} {u v : AV} {b : Bool} (h : ptrEq H u v = some b) : ptrEq (H ++ [x]) u v = some b := by
  unfold ptrEq at h ⊢
  split at h
  · exact h
  · exact h
  · split at h
    · rename_i h1 h2; rw [get_ext h1, get_ext h2]; exact h
    · cases h
  · cases h
theorem findP_ext {H : Heap} {x : AObj} {k : AV} : ∀ {l : List (AV × AV × Nat)} {i : Nat} {r : Option (Nat × AV)}, findP H k l i = some r → findP (H ++ [x]) k l i = some r
  | [], _, _, h => h
  | (k', v, b) :: l, i, r, h => by
    unfold findP at h ⊢
    cases hc : ptrEq H k k' with
    | none => rw [hc] at h; cases h
    | some q =>
      rw [hc] at h; rw [ptrEq_ext hc]
      cases q with
      | true => exact h
      | false => exact findP_ext h
theorem entriesOf_ext {H : Heap} {x : AObj} {p : AV} {l : List (AV × AV × Nat)} (h : entriesOf H p = some l) : entriesOf (H ++ [x]) p = some l := by
  unfold entriesOf at h ⊢
  split at h
  · exact h
  · split at h
    · rename_i h1; rw [get_ext h1]; exact h
    · cases h
  · cases h

def FnX (H : Heap) (x : AObj) (F F' : (AV → Heap → Prop) → Prop) : Prop := ∀ K, F K → ∃ v, K v H ∧ ∀ K' : AV → Heap → Prop, K' v (H ++ [x]) → F' K'
section
variable {H : Heap} {x : AObj}
theorem FnX.ret (v : AV) : FnX H x (fun K => K v H) (fun K => K v (H ++ [x])) := fun _ h => ⟨v, h, fun _ h => h⟩
theorem FnX.no {F' : (AV → Heap → Prop) → Prop} : FnX H x (fun _ => False) F' := fun _ h => h.elim
theorem FnX.bind {α : Type} {F : (α → Prop) → Prop} {G G' : α → (AV → Heap → Prop) → Prop} (hF : Fn1 F) (hG : ∀ a, FnX H x (G a) (G' a)) : FnX H x (fun K => F fun a => G a K) (fun K => F fun a => G' a K) := fun K h => by
  obtain ⟨a, h1, h2⟩ := hF _ h
  obtain ⟨v, h3, h4⟩ := hG a K h1
  exact ⟨v, h3, fun K' hk => h2 _ (h4 K' hk)⟩
theorem FnX.obm {α : Type} {o o' : Option α} {G G' : α → (AV → Heap → Prop) → Prop} (ho : ∀ a, o = some a → o' = some a) (hG : ∀ a, FnX H x (G a) (G' a)) : FnX H x (fun K => ob o fun a => G a K) (fun K => ob o' fun a => G' a K) := fun K h => by
  obtain ⟨a, h1, h2⟩ := ob_iff.1 h
  obtain ⟨v, h3, h4⟩ := hG a K h2
  exact ⟨v, h3, fun K' hk => ob_iff.2 ⟨a, ho a h1, h4 K' hk⟩⟩
theorem FnX.bs (b : Bool) (u v : AV) : FnX H x (fun K => Am.bs b (K u H) (K v H)) (fun K => Am.bs b (K u (H ++ [x])) (K v (H ++ [x]))) := by cases b; exact FnX.ret v; exact FnX.ret u
theorem FnX.ite (c : Prop) [Decidable c] {F G F' G' : (AV → Heap → Prop) → Prop} (hF : FnX H x F F') (hG : FnX H x G G') : FnX H x (fun K => if c then F K else G K) (fun K => if c then F' K else G' K) := by
  by_cases h : c <;> simp only [h, if_true, if_false] <;> assumption

set_option maxHeartbeats 4000000 in
theorem aop_ext {B : Base} {env : Env} (o : AOp) (ho : o.looksOnly = true) : FnX H x (fun K => aop B env H K o) (fun K => aop B env (H ++ [x]) K o) := by
  cases o <;> simp only [AOp.looksOnly, Bool.false_eq_true] at ho
  all_goals simp only [aop]
  all_goals
    repeat' first
      | exact FnX.ret _
      | exact FnX.no
      | exact FnX.bs _ _ _
      | refine FnX.obm (fun _ h => peek_ext h) fun _ => ?_
      | refine FnX.obm (fun _ h => peekN_ext h) fun _ => ?_
      | refine FnX.obm (fun _ h => elemsOf_ext h) fun _ => ?_
      | refine FnX.obm (fun _ h => ptrEq_ext h) fun _ => ?_
      | refine FnX.obm (fun _ h => entriesOf_ext h) fun _ => ?_
      | refine FnX.obm (fun _ h => findP_ext h) fun _ => ?_
      | refine FnX.bind (Fn1.opK _ _) fun _ => ?_
      | refine FnX.bind (Fn1.ob _) fun _ => ?_
      | refine FnX.bind (Fn1.pInt _ _) fun _ => ?_
      | refine FnX.bind (Fn1.pAny _) fun _ => ?_
      | refine FnX.bind (Fn1.pBool _) fun _ => ?_
      | refine FnX.bind (Fn1.pStr _) fun _ => ?_
      | refine FnX.bind (Fn1.pLive _) fun _ => ?_
      | refine FnX.bind (Fn1.tyK _ _) fun _ => ?_
      | refine FnX.bind (Fn1.opsK _ _) fun _ => ?_
      | refine FnX.bind (Fn1.partsK _ _) fun _ => ?_
      | refine FnX.bind (Fn1.optK _ _ _) fun _ => ?_
      | refine FnX.bind (Fn1.intsK _ _ _) fun _ => ?_
      | refine FnX.bind (Fn1.strsK _ _) fun _ => ?_
      | refine FnX.bind (Fn1.ibinK _ _ _ _) fun _ => ?_
      | refine FnX.bind (Fn1.shfK _ _ _ _) fun _ => ?_
      | refine FnX.bind (Fn1.sbinK _ _ _) fun _ => ?_
      | refine FnX.bind (Fn1.extK _ _) fun _ => ?_
      | refine FnX.ite _ ?_ ?_
      | split
end
end Go.Am
