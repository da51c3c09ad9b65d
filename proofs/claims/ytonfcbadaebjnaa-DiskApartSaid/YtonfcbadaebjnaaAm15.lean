/- The abstract machine's predicates grow with what is asked behind them; so calls and loops may be opened. -/
import Derived.Test.YtonfcbadaebjnaaAm14
namespace Go.Am
open Go Go.RowKit

def KLe (Q Q' : KQ) : Prop := ∀ x e h, Q x e h → Q' x e h

theorem thenK_le {N N' : Env → Heap → Prop} {Q Q' : KQ} (hn : ∀ e h, N e h → N' e h) (hq : KLe Q Q') : KLe (AExit.thenK N Q) (AExit.thenK N' Q') := fun x e h hh => by
  cases x
  · exact hn _ _ hh
  · exact hq _ _ _ hh
  · exact hq _ _ _ hh

theorem blockK_le {id : Nat} {Q Q' : KQ} (hq : KLe Q Q') : KLe (AExit.blockK id Q) (AExit.blockK id Q') := fun x e h hh => by
  cases x with
  | normal => exact hq _ _ _ hh
  | exit i => exact ite_mono hh (hq _ _ _) (hq _ _ _)
  | ret => exact hq _ _ _ hh

/-- What goes round: it grows with what is asked, and with what is gone round. -/
theorem ALoop_mono {n0 : Nat} {T T' : Env → Heap → KQ → Prop} (hT : ∀ e h Q Q', KLe Q Q' → T e h Q → T' e h Q') {env : Env} {H : Heap} {Q Q' : KQ} (hq : KLe Q Q') (h : ALoop n0 T env H Q) : ALoop n0 T' env H Q' := fun X hX hC =>
  h X (fun e h ht => hX e h (hT e h _ _ (thenK_le (fun _ _ h => h) hq) ht)) hC

theorem awC_mono {B : Base} {c c' : CallK} (hc : CLe c c') {n0 : Nat} : ∀ (a : AC) (env : Env) (H : Heap) (Q Q' : KQ), KLe Q Q' → awC B c (ALoop n0) a env H Q → awC B c' (ALoop n0) a env H Q'
  | .skip, _, _, _, _, hq, h => hq _ _ _ h
  | .ops _, _, _, _, _, hq, h => runG_mono hc (fun _ _ h => hq _ _ _ h) h
  | .draw _, _, _, _, _, hq, h => by simp only [awC, drawG_eq] at h ⊢; exact drawK_mono hc (fun _ _ h => hq _ _ _ h) h
  | .seq a b, _, _, _, _, hq, h => awC_mono hc a _ _ _ _ (thenK_le (fun _ _ h => awC_mono hc b _ _ _ _ hq h) hq) h
  | .keep _ a, _, _, _, _, hq, h => awC_keep.2 (awC_mono hc a _ _ _ _ hq (awC_keep.1 h))
  | .cond _ a b, _, _, _, _, hq, h => opK_mono h fun _ h => pBool_mono h fun _ h => ite_mono h (fun h => awC_mono hc a _ _ _ _ hq h) fun h => awC_mono hc b _ _ _ _ hq h
  | .block _ a, _, _, _, _, hq, h => awC_mono hc a _ _ _ _ (blockK_le hq) h
  | .loop l a, _, _, _, _, hq, h => ALoop_mono (T := fun e h q => awC B c (ALoop n0) a (if l.isEmpty then e else keepEnv l e) h q) (T' := fun e h q => awC B c' (ALoop n0) a (if l.isEmpty then e else keepEnv l e) h q) (fun e h Q Q' hq h => awC_mono hc a _ _ _ _ hq h) hq h
  | .exit _, _, _, _, _, hq, h => hq _ _ _ h
  | .ret, _, _, _, _, hq, h => hq _ _ _ h
  | .names, _, _, _, _, hq, h => namesK_mono (fun _ _ h => hq _ _ _ h) h

theorem ressK_mono {B : Base} {env : Env} {H : Heap} : ∀ {l : List (Nat × Option (Option Ty × Nat))} {K K' : List AV → Prop}, (∀ v, K v → K' v) → ressK B env H l K → ressK B env H l K'
  | [], _, _, hk, h => hk _ h
  | (_, none) :: _, _, _, hk, h => ob_mono h fun _ h => ressK_mono (fun _ h => hk _ h) h
  | (_, some (some _, _)) :: _, _, _, hk, h => ob_mono h fun _ h => ob_mono h fun _ h => tyK_mono h fun _ h => ressK_mono (fun _ h => hk _ h) h
  | (_, some (none, _)) :: _, _, _, hk, h => ob_mono h fun _ h => ob_mono h fun _ h => ressK_mono (fun _ h => hk _ h) h

theorem fnK_mono {B : Base} {c c' : CallK} (hc : CLe c c') {n0 : Nat} {fn : AFunc} {args : List AV} {H : Heap} {Q Q' : AV → Heap → Prop} (hq : ∀ v h, Q v h → Q' v h) (h : fnK B c (ALoop n0) fn args H Q) : fnK B c' (ALoop n0) fn args H Q' :=
  awC_mono hc _ _ _ _ _ (fun x e h hh => by
    cases x with
    | normal => exact ressK_mono (fun _ h => hq _ _ h) hh
    | exit i => exact hh
    | ret => exact ressK_mono (fun _ h => hq _ _ h) hh) h

theorem tidyK_mono {n0 : Nat} {Q Q' : AV → Heap → Prop} (hq : ∀ v h, Q v h → Q' v h) : ∀ v h, tidyK n0 Q v h → tidyK n0 Q' v h := fun v h hh => by
  rcases hh with hh | ⟨v2, H2, hc, hh⟩
  · exact .inl (hq _ _ hh)
  · exact .inr ⟨v2, H2, hc, hq _ _ hh⟩

/-- A call is opened. -/
theorem ACall.mono {B : Base} {F : FuncId → Option AFunc} {f : FuncId} {as : List AV} {H : Heap} {Q Q' : AV → Heap → Prop} (h : ACall B F f as H Q) (hq : ∀ v h, Q v h → Q' v h) : ACall B F f as H Q' := by
  intro X hX
  have := h (fun f as H Q => ∀ Q', (∀ v h, Q v h → Q' v h) → X f as H Q') ?_
  · exact this Q' hq
  · rintro f as H Q ⟨fn, hf, hb⟩ Q' hq
    exact hX f as H Q' ⟨fn, hf, fun h1 h2 => fnK_mono (fun f as H Q Q' hq h => h Q' hq) (tidyK_mono hq) (hb h1 h2)⟩

theorem ACall.cle (B : Base) (F : FuncId → Option AFunc) : CLe (ACall B F) (ACall B F) := fun _ _ _ _ _ hq h => h.mono hq

/-- A call is opened: by the function's body; what is asked may be shown of memory that was tidied. -/
theorem ACall.intro {B : Base} {F : FuncId → Option AFunc} {f : FuncId} {fn : AFunc} (hf : F f = some fn) {as : List AV} {H : Heap} {Q : AV → Heap → Prop} (h : LowH H.length H → LowL H.length as → fnK B (ACall B F) (ALoop H.length) fn as H (tidyK H.length Q)) : ACall B F f as H Q := by
  intro X hX
  -- X itself need not grow: what grows lies in it
  have key : ∀ f as H Q, ACall B F f as H Q → X f as H Q := fun f as H Q h => h X hX
  exact hX f as H Q ⟨fn, hf, fun h1 h2 => fnK_mono (c := ACall B F) (c' := X) (fun f as H Q Q' hq h => key f as H Q' (h.mono hq)) (fun _ _ h => h) (h h1 h2)⟩

/-- A loop is opened: one round more. -/
theorem ALoop.intro {n0 : Nat} {T : Env → Heap → KQ → Prop} (hT : ∀ e h Q Q', KLe Q Q' → T e h Q → T e h Q') {env : Env} {H : Heap} {Q : KQ} (h : T env H (AExit.thenK (fun e h => ALoop n0 T e h Q) Q)) : ALoop n0 T env H Q := fun X hX hC =>
  hX env H (hT _ _ _ _ (thenK_le (fun e h hl => hl X hX hC) fun _ _ _ h => h) h)

theorem ALoop.intro' {B : Base} {F : FuncId → Option AFunc} {n0 : Nat} {l : List Nat} {a : AC} {env : Env} {H : Heap} {Q : KQ}
    (h : awC B (ACall B F) (ALoop n0) a (if l.isEmpty then env else keepEnv l env) H (AExit.thenK (fun e h => awC B (ACall B F) (ALoop n0) (.loop l a) e h Q) Q)) : awC B (ACall B F) (ALoop n0) (.loop l a) env H Q :=
  ALoop.intro (T := fun e h q => awC B (ACall B F) (ALoop n0) a (if l.isEmpty then e else keepEnv l e) h q) (fun e h Q Q' hq ht => awC_mono (ACall.cle B F) a _ _ _ _ hq ht) h

theorem keepEnv_forget (l : List Nat) (env : Env) : Forget env (keepEnv l env) := by
  refine ⟨rfl, fun t v h => ?_⟩
  have h : assoc (vals l env) t = some v := h
  rw [vals_eq] at h
  have := assoc_map h
  cases hf : env.f t with
  | none => rw [hf] at this; exact .inl this
  | some u => rw [hf] at this; simp at this; subst this; exact .inr rfl

/-- A loop is opened by one round; what is not kept is forgotten behind it, too. -/
theorem ALoop.round {B : Base} {F : FuncId → Option AFunc} {n0 : Nat} {l : List Nat} {a : AC} {env : Env} {H : Heap} {Q : KQ} (hl : l.isEmpty = false)
    (h : awC B (ACall B F) (ALoop n0) a (keepEnv l env) H (AExit.thenK (fun e h => awC B (ACall B F) (ALoop n0) (.loop l a) (keepEnv l e) h Q) Q)) : awC B (ACall B F) (ALoop n0) (.loop l a) env H Q := by
  refine ALoop.intro' ?_
  simp only [hl, Bool.false_eq_true, if_false]
  exact awC_mono (ACall.cle B F) a _ _ _ _ (thenK_le (fun e h hh => fun X hX hC => hC _ _ _ _ (.inl ⟨rfl, keepEnv_forget l e⟩) (hh X hX hC)) fun _ _ _ h => h) h

theorem assoc_map_eq {f : Nat → Option AV} : ∀ (l : List Nat) (i : Nat), assoc (l.map fun i => (i, (f i).getD .dead)) i = if i ∈ l then some ((f i).getD .dead) else none
  | [], i => by simp [assoc]
  | k :: r, i => by
    simp only [List.map_cons, assoc, List.mem_cons]
    by_cases e : i = k
    · subst e; simp [beq_self]
    · rw [beq_ne e, cond_false, assoc_map_eq r i]; simp [e]
theorem keepEnv_f (l : List Nat) (env : Env) (i : Nat) : (keepEnv l env).f i = if i ∈ l then some ((env.f i).getD .dead) else none := by
  show assoc (vals l env) i = _
  rw [vals_eq]; exact assoc_map_eq l i
theorem keepEnv_keepEnv (l : List Nat) (env : Env) : keepEnv l (keepEnv l env) = keepEnv l env := by
  show ev env.n _ = ev env.n _
  congr 1
  simp only [vals_eq]
  refine List.map_congr_left fun i hi => ?_
  rw [keepEnv_f, if_pos hi]; rfl

/-- The same, where what is kept is named ahead of the loop. -/
theorem ALoop.round2 {B : Base} {call : CallK} {n0 : Nat} {l : List Nat} {a : AC} {env : Env} {H : Heap} {Q : KQ} (hc : CLe call call) (hl : l.isEmpty = false)
    (h : awC B call (ALoop n0) a (keepEnv l env) H (AExit.thenK (fun e h => awC B call (ALoop n0) (.keep l (.loop l a)) e h Q) Q)) : awC B call (ALoop n0) (.keep l (.loop l a)) env H Q := by
  refine awC_keep.2 ?_
  refine ALoop.intro (T := fun e h q => awC B call (ALoop n0) a (if l.isEmpty then e else keepEnv l e) h q) (fun e h Q Q' hq ht => awC_mono hc a _ _ _ _ hq ht) ?_
  rw [if_neg (by simp [hl]), keepEnv_keepEnv]
  exact awC_mono hc a _ _ _ _ (thenK_le (fun e h hh => fun X hX hC => hC _ _ _ _ (.inl ⟨rfl, keepEnv_forget l e⟩) ((show awC B call (ALoop n0) (.loop l a) (keepEnv l e) h Q from awC_keep.1 hh) X hX hC)) fun _ _ _ h => h) h

theorem RVE.keep {f : Nat → Nat} {n : Nat} {e2 e : Env} (h : RVE f n e2 e) (l : List Nat) : RVE f n (keepEnv l e2) (keepEnv l e) := by
  refine ⟨h.1, fun t v2 hv => ?_⟩
  rw [keepEnv_f] at hv ⊢
  split at hv
  · rename_i ht
    rw [if_pos ht]
    cases hv
    refine ⟨_, rfl, ?_⟩
    cases h2 : e2.f t with
    | none => simp [RV]
    | some u => obtain ⟨v, g1, g2⟩ := h.2 t u h2; rw [g1]; exact g2
  · cases hv

/-- A new row behind a slice. -/
def slK (H : Heap) (es len : Nat) (c : List AV) (K : AV → Heap → Prop) : Prop := K (.slice (.new H.length) 0 len es (some len)) (H ++ [.arr c])

/-- No slots. -/
def E0 : Env := ev 0 []

/-- At a loop's head memory may be tidied. -/
theorem ALoop.tidy {B : Base} {call : CallK} {n0 : Nat} {l : List Nat} {a : AC} {env env2 : Env} {H H2 : Heap} {Q : KQ} (hc : CleanE n0 H env H2 env2) (h : awC B call (ALoop n0) (.loop l a) env2 H2 Q) : awC B call (ALoop n0) (.loop l a) env H Q := fun X hX hC =>
  hC _ _ _ _ hc (h X hX hC)

end Go.Am
