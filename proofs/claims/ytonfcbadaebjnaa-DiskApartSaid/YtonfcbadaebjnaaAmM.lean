/- The abstract machine's predicates grow with what is asked behind them; so calls and loops may be opened. -/
import Derived.Test.YtonfcbadaebjnaaAm13
namespace Go.Am
open Go Go.RowKit

theorem opK_mono {env : Env} {x : Opd} {K K' : AV → Prop} (h : opK env x K) (hk : ∀ v, K v → K' v) : opK env x K' := ob_mono h hk
theorem pInt_mono {k : IntKind} {v : AV} {K K' : Int → Prop} (h : pInt k v K) (hk : ∀ n, K n → K' n) : pInt k v K' := by
  rw [pInt_iff] at h ⊢; obtain ⟨n, e, h⟩ := h; exact ⟨n, e, hk n h⟩
theorem pAny_mono {v : AV} {K K' : Int → Prop} (h : pAny v K) (hk : ∀ n, K n → K' n) : pAny v K' := by
  rw [pAny_iff] at h ⊢; obtain ⟨k, n, e, h⟩ := h; exact ⟨k, n, e, hk n h⟩
theorem pBool_mono {v : AV} {K K' : Bool → Prop} (h : pBool v K) (hk : ∀ n, K n → K' n) : pBool v K' := by
  rw [pBool_iff] at h ⊢; obtain ⟨n, e, h⟩ := h; exact ⟨n, e, hk n h⟩
theorem pStr_mono {v : AV} {K K' : List UInt8 → Prop} (h : pStr v K) (hk : ∀ n, K n → K' n) : pStr v K' := by
  rw [pStr_iff] at h ⊢; obtain ⟨n, e, h⟩ := h; exact ⟨n, e, hk n h⟩
theorem pLive_mono {v : AV} {K K' : AV → Prop} (h : pLive v K) (hk : ∀ n, K n → K' n) : pLive v K' := by
  rw [pLive_iff] at h ⊢; exact ⟨h.1, hk _ h.2⟩
theorem opsK_mono {env : Env} : ∀ {l : List Opd} {K K' : List AV → Prop}, opsK env l K → (∀ v, K v → K' v) → opsK env l K'
  | [], _, _, h, hk => hk _ h
  | _ :: _, _, _, h, hk => opK_mono h fun _ h => opsK_mono h fun _ h => hk _ h
theorem partsK_mono {env : Env} : ∀ {l : List (Nat × Nat × Opd)} {K K' : List (Nat × Nat × AV) → Prop}, partsK env l K → (∀ v, K v → K' v) → partsK env l K'
  | [], _, _, h, hk => hk _ h
  | (_, _, _) :: _, _, _, h, hk => opK_mono h fun _ h => partsK_mono h fun _ h => hk _ h
theorem optK_mono {env : Env} {d : Int} {x : Option Opd} {K K' : Int → Prop} (h : optK env d x K) (hk : ∀ v, K v → K' v) : optK env d x K' := by
  cases x with
  | none => exact hk _ h
  | some x => exact opK_mono h fun _ h => pAny_mono h hk
theorem intsK_mono {env : Env} {k : IntKind} : ∀ {l : List Opd} {K K' : List Int → Prop}, intsK env k l K → (∀ v, K v → K' v) → intsK env k l K'
  | [], _, _, h, hk => hk _ h
  | _ :: _, _, _, h, hk => opK_mono h fun _ h => pInt_mono h fun _ h => intsK_mono h fun _ h => hk _ h
theorem strsK_mono {env : Env} : ∀ {l : List Opd} {K K' : List (List UInt8) → Prop}, strsK env l K → (∀ v, K v → K' v) → strsK env l K'
  | [], _, _, h, hk => hk _ h
  | _ :: _, _, _, h, hk => opK_mono h fun _ h => pStr_mono h fun _ h => strsK_mono h fun _ h => hk _ h
theorem ibinK_mono {op : BinOp} {k : IntKind} {a b : Int} {K K' : AV → Prop} (h : ibinK op k a b K) (hk : ∀ v, K v → K' v) : ibinK op k a b K' := by
  cases op <;> simp only [ibinK] at h ⊢ <;> first | exact hk _ h | exact h.elim | exact bs_mono h (hk _) (hk _) | (split at h; exact h.elim; rename_i hh; rw [if_neg hh]; exact hk _ h)
theorem shfK_mono {op : BinOp} {k : IntKind} {a b : Int} {K K' : AV → Prop} (h : shfK op k a b K) (hk : ∀ v, K v → K' v) : shfK op k a b K' := by
  unfold shfK at h ⊢
  split at h
  · exact h.elim
  · rename_i hh; rw [if_neg hh]
    cases op <;> first | exact hk _ h | exact h.elim
theorem sbinK_mono {op : BinOp} {a b : List UInt8} {K K' : AV → Prop} (h : sbinK op a b K) (hk : ∀ v, K v → K' v) : sbinK op a b K' := by
  cases op <;> simp only [sbinK] at h ⊢ <;> first | exact hk _ h | exact h.elim | exact bs_mono h (hk _) (hk _) | (split at h; rename_i hh; rw [if_pos hh]; exact hk _ h; exact h.elim)
theorem extK_mono {ty : Option Ty} {v : AV} {K K' : AV → Prop} (h : extK ty v K) (hk : ∀ v, K v → K' v) : extK ty v K' := by
  cases ty with
  | none => exact hk _ h
  | some t => exact tyK_mono h hk
theorem ite_mono {c : Prop} [Decidable c] {p p' q q' : Prop} (h : if c then p else q) (h1 : p → p') (h2 : q → q') : if c then p' else q' := by
  split
  · rename_i hc; rw [if_pos hc] at h; exact h1 h
  · rename_i hc; rw [if_neg hc] at h; exact h2 h

set_option maxHeartbeats 4000000 in
theorem aop_mono {B : Base} {env : Env} {H : Heap} {K K' : AV → Heap → Prop} (hk : ∀ v h, K v h → K' v h) : ∀ (o : AOp), aop B env H K o → aop B env H K' o := by
  intro o h
  cases o <;> simp only [aop] at h ⊢
  all_goals
    repeat' first
      | exact hk _ _ h
      | exact h
      | exact h.elim
      | exact bs_mono h (hk _ _) (hk _ _)
      | (refine opK_mono h fun _ h => ?_)
      | (refine ob_mono h fun _ h => ?_)
      | (refine pInt_mono h fun _ h => ?_)
      | (refine pAny_mono h fun _ h => ?_)
      | (refine pBool_mono h fun _ h => ?_)
      | (refine pStr_mono h fun _ h => ?_)
      | (refine pLive_mono h fun _ h => ?_)
      | (refine tyK_mono h fun _ h => ?_)
      | (refine opsK_mono h fun _ h => ?_)
      | (refine partsK_mono h fun _ h => ?_)
      | (refine optK_mono h fun _ h => ?_)
      | (refine intsK_mono h fun _ h => ?_)
      | (refine strsK_mono h fun _ h => ?_)
      | (refine ibinK_mono h fun _ h => ?_)
      | (refine shfK_mono h fun _ h => ?_)
      | (refine sbinK_mono h fun _ h => ?_)
      | (refine extK_mono h fun _ h => ?_)
      | (refine ite_mono h (fun h => ?_) (fun h => ?_))
      | (revert h; split <;> intro h)

/-- A call that does more. -/
def CLe (c c' : CallK) : Prop := ∀ f as H Q Q', (∀ v h, Q v h → Q' v h) → c f as H Q → c' f as H Q'

theorem calleeK_mono {B : Base} {env : Env} {H : Heap} {args : List AV} {K K' : FuncId → List AV → Prop} (hk : ∀ f as, K f as → K' f as) : ∀ {c : ACallee}, calleeK B env H args K c → calleeK B env H args K' c := by
  intro c h
  cases c with
  | fn f => exact hk _ _ h
  | val x =>
    simp only [calleeK] at h ⊢
    refine opK_mono h fun _ h => ?_
    revert h; split <;> intro h
    · exact hk _ _ h
    · exact h
  | meth rows x =>
    simp only [calleeK] at h ⊢
    refine opK_mono h fun _ h => ?_
    revert h; split <;> intro h
    · revert h; split <;> intro h
      · exact hk _ _ h
      · exact ite_mono h (fun h => ob_mono h fun _ h => hk _ _ h) fun h => ob_mono h fun _ h => hk _ _ h
      · exact h
    · exact h

theorem insK_mono {B : Base} {c c' : CallK} (hc : CLe c c') {env : Env} {H : Heap} {K K' : AV → Heap → Prop} (hk : ∀ v h, K v h → K' v h) : ∀ {i : AIns}, insK B c env H K i → insK B c' env H K' i := by
  intro i h
  cases i with
  | op o => exact aop_mono hk o h
  | call cal args ty => exact opsK_mono h fun _ h => calleeK_mono (fun f as h => hc f as H _ _ (fun v h' hq => tyK_mono hq fun _ h => hk _ _ h) h) h
  | next it =>
    simp only [insK, nextK] at h ⊢
    refine opK_mono h fun _ h => ?_
    revert h; split <;> intro h
    · revert h; split <;> intro h
      · exact hk _ _ h
      · revert h; split <;> intro h
        · exact ite_mono h (fun h => ⟨fun hn => hk _ _ (h.1 hn), fun e he hs => hk _ _ (h.2 e he hs)⟩) fun h => h
        · exact h
      · exact h
    · exact h
  | entry it =>
    simp only [insK, entryK] at h ⊢
    refine opK_mono h fun _ h => ?_
    revert h; split <;> intro h
    · revert h; split <;> intro h
      · revert h; split <;> intro h
        · exact ite_mono h (fun h => ob_mono h fun _ h => ob_mono h fun _ h => hk _ _ h) fun h => h
        · exact h
      · exact h
    · exact h
  | bad n => exact h

theorem stepK_mono {B : Base} {c c' : CallK} (hc : CLe c c') {s : AStep} {env : Env} {H : Heap} {K K' : Env → Heap → Prop} (hk : ∀ e h, K e h → K' e h) (h : stepK B c s env H K) : stepK B c' s env H K' := by
  have hr : ∀ v h, resK env s.dst v h K → resK env s.dst v h K' := fun v h hh => by
    rw [resK_eq] at hh ⊢; exact hk _ _ hh
  unfold stepK at h ⊢
  split at h
  · exact insK_mono hc hr h
  · exact h.elim
  · exact ob_mono h fun _ h => pGuard_mono h (fun _ h => ite_mono h (fun h => insK_mono hc hr h) fun h => hr _ _ h) fun h => hr _ _ h

theorem sameK_mono {B : Base} {c c' : CallK} (hc : CLe c c') {s : AStep} {env : Env} {H : Heap} (h : sameK B c s env H) : sameK B c' s env H := by
  unfold sameK at h ⊢
  split at h
  · exact stepK_mono hc (fun _ _ h => h) h
  · exact stepK_mono hc (fun _ _ h => h) h
theorem guardK_mono {B : Base} {c c' : CallK} (hc : CLe c c') {s : AStep} {want b : Bool} {env : Env} {H : Heap} {K K' : Env → Heap → Prop} (hk : ∀ e h, K e h → K' e h) (h : guardK B c s want env H K b) : guardK B c' s want env H K' b := by
  unfold guardK at h ⊢
  refine ite_mono h (fun h => ?_) (fun h => ?_)
  · exact insK_mono hc (fun v H' h => by rw [resK_eq] at h ⊢; exact hk _ _ h) h
  · rw [resK_eq] at h ⊢; exact hk _ _ h
theorem stepG_mono {B : Base} {c c' : CallK} (hc : CLe c c') {s : AStep} {env : Env} {H : Heap} {K K' : Env → Heap → Prop} (hk : ∀ e h, K e h → K' e h) (h : stepG B c s env H K) : stepG B c' s env H K' := by
  unfold stepG at h ⊢
  split at h
  · exact insK_mono hc (fun v H' h => by rw [resK_eq] at h ⊢; exact hk _ _ h) h
  · exact h.elim
  · exact ob_mono h fun _ h => pGuard_mono h (fun b h => bs_mono h (guardK_mono hc hk) (guardK_mono hc hk)) fun h => by rw [resK_eq] at h ⊢; exact hk _ _ h
theorem runG_mono {B : Base} {c c' : CallK} (hc : CLe c c') : ∀ {l : List AStep} {env : Env} {H : Heap} {K K' : Env → Heap → Prop}, (∀ e h, K e h → K' e h) → runG B c l env H K → runG B c' l env H K'
  | [], _, _, _, _, hk, h => hk _ _ h
  | _ :: _, _, _, _, _, hk, h => stepG_mono hc (fun _ _ h => runG_mono hc hk h) h

theorem samesK_mono {B : Base} {c c' : CallK} (hc : CLe c c') : ∀ {l : List AStep} {env : Env} {H : Heap} {p p' : Prop}, (p → p') → samesK B c l env H p → samesK B c' l env H p'
  | [], _, _, _, _, hp, h => hp h
  | _ :: _, _, _, _, _, hp, h => ⟨sameK_mono hc h.1, samesK_mono hc hp h.2⟩
theorem drawK_mono {B : Base} {c c' : CallK} (hc : CLe c c') : ∀ {l : List (AStep × List AStep)} {env : Env} {H : Heap} {K K' : Env → Heap → Prop}, (∀ e h, K e h → K' e h) → drawK B c l env H K → drawK B c' l env H K'
  | [], _, _, _, _, hk, h => hk _ _ h
  | (_, _) :: _, _, _, _, _, hk, h => stepK_mono hc (fun _ _ h => samesK_mono hc (fun h => drawK_mono hc hk h) h) h

end Go.Am
