/- A region that draws its order: the model's runs follow the abstract machine's, whatever the order. -/
import Derived.Test.YtonfcbadaebjnaaAmD0
import Derived.Test.YtonfcbadaebjnaaAm14a
import Derived.Orders
namespace Go.Am
open Go Go.RowKit

section
variable {B : Base} {call : CallK} {L : List AStep} {an : Nat → List Nat}

/-- The rest of a region: what is done, what is to come. -/
def runD (B : Base) (call : CallK) (L : List AStep) (an : Nat → List Nat) : List Nat → List Nat → Env → Heap → (Env → Heap → Prop) → Prop
  | _, [], env, H, K => K env H
  | done, i :: r, env, H, K => stepK B call (drawStep L i) env H fun env' H' =>
      (drawObs L i = false → drawNew L an i = false → ∀ x, x ∈ done → x ∉ an i → sameK B call (drawStep L x) env' H') ∧ runD B call L an (i :: done) r env' H' K

theorem samesK_iff : ∀ {l : List AStep} {env : Env} {H : Heap} {p : Prop}, samesK B call l env H p ↔ (∀ s ∈ l, sameK B call s env H) ∧ p
  | [], _, _, _ => by simp [samesK]
  | s :: r, env, H, p => by
    simp only [samesK, samesK_iff (l := r), List.mem_cons, forall_eq_or_imp, and_assoc]

theorem runD_of_draw (hc : CLe call call) : ∀ {r done : List Nat} {env : Env} {H : Heap} {K : Env → Heap → Prop}, drawK B call (layRows L an done r) env H K → runD B call L an done r env H K
  | [], _, _, _, _, h => h
  | i :: r, done, env, H, K, h => by
    simp only [layRows, drawK] at h
    refine stepK_mono hc (fun e' H' h => ?_) h
    rw [samesK_iff] at h
    refine ⟨fun ho hw x hx hn => h.1 _ ?_, runD_of_draw hc h.2⟩
    rw [if_neg (by simp [ho, hw])]
    exact List.mem_map_of_mem (List.mem_filter.2 ⟨hx, by simpa using hn⟩)

theorem runD_sub (hc : CLe call call) : ∀ {r done done' : List Nat} {env : Env} {H : Heap} {K : Env → Heap → Prop}, (∀ x, x ∈ done' → x ∈ done) → runD B call L an done r env H K → runD B call L an done' r env H K
  | [], _, _, _, _, _, _, h => h
  | i :: r, done, done', env, H, K, hs, h => stepK_mono hc (fun e' H' h => ⟨fun ho hw x hx hn => h.1 ho hw x (hs x hx) hn, runD_sub hc (fun x hx => by
      rcases List.mem_cons.1 hx with rfl | hx
      · exact List.mem_cons_self ..
      · exact List.mem_cons_of_mem _ (hs x hx)) h.2⟩) h

/-- What the order and the slots must answer. -/
structure DrawOk (L : List AStep) (ds : List (List Nat)) (an : Nat → List Nat) (order : List Nat) : Prop where
  pair : order.Pairwise fun x i => x ≠ i ∧ i ∉ an x ∧ (x ∈ an i ∨ drawObs L x = true ∨ drawNew L an i = true)
  lt : ∀ i ∈ order, i < L.length
  all : ∀ i, i < L.length → i ∈ order
  anc : ∀ i, i < L.length → ∀ a ∈ an i, a ∈ ds.getD i [] ∨ ∃ d ∈ ds.getD i [], a ∈ an d
  anclt : ∀ i, i < L.length → ∀ a ∈ an i, a < L.length
  dep : ∀ i, i < L.length → ∀ d ∈ ds.getD i [], d ∈ an i ∧ d < L.length
  irr : ∀ i, i < L.length → i ∉ an i
  self : ∀ i, i < L.length → (drawStep L i).free (drawStep L i).dst = true ∨ ∀ j, j < L.length → j ≠ i → j ∈ an i
  apart : ∀ a b, a < L.length → b < L.length → a ≠ b → b ∉ an a → (drawStep L a).apart (drawStep L b) = true ∨ ∀ j, j < L.length → j ≠ b → j ∈ an b

theorem pairB_iff : ∀ {l : List Nat}, pairB L an l = true → l.Pairwise fun x i => x ≠ i ∧ i ∉ an x ∧ (x ∈ an i ∨ drawObs L x = true ∨ drawNew L an i = true)
  | [], _ => .nil
  | x :: r, h => by
    simp only [pairB, Bool.and_eq_true, List.all_eq_true] at h
    refine .cons (fun i hi => ?_) (pairB_iff h.2)
    have := h.1 i hi
    simpa [and_assoc, or_assoc] using this

theorem lastB_iff {b : Nat} (h : lastB L an b = true) : ∀ j, j < L.length → j ≠ b → j ∈ an b := fun j hj hb => by
  simp only [lastB, List.all_eq_true, List.mem_range] at h
  simpa [hb] using h j hj

theorem DrawOk.of {ds : List (List Nat)} {order : List Nat} (h : drawB L ds an order = true) : DrawOk L ds an order := by
  simp only [drawB, Bool.and_eq_true, Bool.or_eq_true, List.all_eq_true, List.mem_range, decide_eq_true_eq] at h
  obtain ⟨⟨⟨⟨⟨h1, h2⟩, h3⟩, h4⟩, h6⟩, h5⟩ := h
  refine ⟨pairB_iff h1, h2, fun i hi => by simpa using h3 i hi, fun i hi a ha => ?_, fun i hi a ha => (h4 i hi a ha).1, fun i hi d hd => (by have := (h6 i hi).2 d hd; simpa using this), fun i hi => (by have := (h6 i hi).1; simpa using this), fun i hi => ((h5 i hi).1).imp id lastB_iff, fun a b ha hb hab hn => ?_⟩
  · have := (h4 i hi a ha).2
    simpa [List.any_eq_true] using this
  · have := (h5 a ha).2 b hb
    simp only [beq_iff_eq, hab, false_or, List.contains_eq_mem, decide_eq_true_eq, hn] at this
    exact this.imp id lastB_iff

theorem apart_free {s t : AStep} (h : s.apart t = true) : s.free t.dst = true ∧ ∀ d, t.dst = some d → s.dst ≠ some d := by
  simp only [AStep.apart, Bool.and_eq_true] at h
  refine ⟨h.1, fun d hd hs => ?_⟩
  have := h.2
  rw [hd, hs] at this
  simp at this

theorem setD_comm (env : Env) {d e : Option Nat} (h : ∀ t, d = some t → e ≠ some t) (u v : AV) : setD (setD env d u) e v = setD (setD env e v) d u := by
  cases d with
  | none => rfl
  | some d =>
    cases e with
    | none => rfl
    | some e =>
      have : d ≠ e := fun hh => h d rfl (by rw [hh])
      exact Env.upd_comm _ this _ _

/-- An observer that tells the same, met behind: it may be met anew, in what its own slot was before. -/
theorem sameK_again {s : AStep} (hs : s.ins.looksOnly = true) (hf : s.free s.dst = true) {env : Env} {H : Heap} {v : AV} (h : sameK B call s (setD env s.dst v) H) {K : Env → Heap → Prop} (hk : K (setD env s.dst v) H) : stepK B call s env H K := by
  unfold sameK at h
  cases hd : s.dst with
  | none =>
    rw [hd] at h hk
    obtain ⟨v', h1, h2⟩ := stepK_obs hs h
    refine h2 K ?_
    rw [hd]; exact hk
  | some d =>
    rw [hd] at h hk
    simp only at h
    rw [← hd, stepK_setD_self hf] at h
    obtain ⟨v', h1, h2⟩ := stepK_obs hs h
    refine h2 K ?_
    rw [hd] at h1 ⊢
    obtain ⟨u, hu, h1⟩ := ob_iff.1 h1
    obtain ⟨u', hu', h1⟩ := ob_iff.1 h1
    simp only [setD] at hu hu' hk ⊢
    rw [Env.upd_self] at hu hu'
    cases hb : Nat.blt d env.n with
    | false => rw [hb] at hu; cases hu
    | true =>
      rw [hb] at hu hu'
      simp only [cond_true, Option.some.injEq] at hu hu'
      subst hu; subst hu'
      rw [h1]; exact hk

/-- What is met again knows nothing of a slot. -/
theorem sameK_drop {s : AStep} {env : Env} {H : Heap} {d : Option Nat} {v : AV} (hc : CLe call call) (hf : s.free d = true) (hdst : ∀ t, d = some t → s.dst ≠ some t) (h : sameK B call s (setD env d v) H) : sameK B call s env H := by
  unfold sameK at h ⊢
  cases hd : s.dst with
  | none =>
    rw [hd] at h
    simp only at h ⊢
    rw [stepK_setD hf hdst] at h
    exact h
  | some t =>
    rw [hd] at h
    simp only at h ⊢
    rw [stepK_setD hf hdst] at h
    refine stepK_mono hc (fun e' H' h => ?_) h
    cases d with
    | none => exact h
    | some d =>
      have : d ≠ t := fun e => hdst d rfl (by rw [hd, e])
      simp only [setD, Env.upd_ne (Ne.symm this)] at h
      exact h

variable {ds : List (List Nat)} {order : List Nat}

/-- One that is ready comes first. -/
theorem runD_first (hc : CLe call call) (ok : DrawOk L ds an order) {i : Nat} {r2 : List Nat} {K : Env → Heap → Prop} (hi : i < L.length) (hw : drawNew L an i = false) :
    ∀ (r1 done : List Nat) (env : Env) (H : Heap),
      (∀ x ∈ r1, x < L.length ∧ x ≠ i ∧ i ∉ an x ∧ x ∉ an i ∧ drawObs L x = true) → (∀ y ∈ done, y < L.length ∧ ∀ x ∈ r1, x ≠ y ∧ x ∉ an y) →
      r1.Pairwise (fun x y => x ≠ y ∧ y ∉ an x) →
      runD B call L an done (r1 ++ i :: r2) env H K →
      stepK B call (drawStep L i) env H fun env' H' =>
        (drawObs L i = false → ∀ x, x ∈ done → x ∉ an i → sameK B call (drawStep L x) env' H') ∧ runD B call L an (i :: done) (r1 ++ r2) env' H' K
  | [], _, _, _, _, _, _, h => stepK_mono hc (fun e h hh => ⟨fun ho => hh.1 ho hw, hh.2⟩) h
  | x :: r1, done, env, H, hr, hdn, hp, h => by
    obtain ⟨hxl, hxi, hix, hxa, hxo⟩ := hr x (List.mem_cons_self ..)
    have hxo' : (drawStep L x).ins.looksOnly = true := hxo
    simp only [List.cons_append, runD] at h
    obtain ⟨v, h1, hagain⟩ := stepK_obs hxo' h
    have hself := (ok.self x hxl).resolve_right fun hl => hix (hl i hi (Ne.symm hxi))
    have api := apart_free ((ok.apart i x hi hxl (Ne.symm hxi) hxa).resolve_right fun hl => hix (hl i hi (Ne.symm hxi)))
    have apx := apart_free ((ok.apart x i hxl hi hxi hix).resolve_right fun hl => hxa (hl x hxl hxi))
    have ih := runD_first hc ok (r2 := r2) (K := K) hi hw r1 (x :: done) (setD env (drawStep L x).dst v) H (fun y hy => hr y (List.mem_cons_of_mem _ hy))
      (fun y hy => by
        rcases List.mem_cons.1 hy with rfl | hy
        · exact ⟨hxl, fun z hz => ⟨fun e => ((List.pairwise_cons.1 hp).1 z hz).1 e.symm, ((List.pairwise_cons.1 hp).1 z hz).2⟩⟩
        · exact ⟨(hdn y hy).1, fun z hz => (hdn y hy).2 z (List.mem_cons_of_mem _ hz)⟩) (List.pairwise_cons.1 hp).2 h1.2
    rw [stepK_setD api.1 api.2] at ih
    -- what the first one leaves, and the second one behind it
    have goal : ∀ e' H', ((drawObs L i = false → ∀ y, y ∈ x :: done → y ∉ an i → sameK B call (drawStep L y) (setD e' (drawStep L x).dst v) H') ∧
        runD B call L an (i :: x :: done) (r1 ++ r2) (setD e' (drawStep L x).dst v) H' K) →
        (∀ K' : Env → Heap → Prop, K' (setD e' (drawStep L x).dst v) H' → stepK B call (drawStep L x) e' H' K') →
        (drawObs L i = false → ∀ y, y ∈ done → y ∉ an i → sameK B call (drawStep L y) e' H') ∧ runD B call L an (i :: done) (x :: r1 ++ r2) e' H' K := by
      intro e' H' hh hx
      refine ⟨fun ho y hy hn => ?_, ?_⟩
      · have hyx := (hdn y hy).2 x (List.mem_cons_self ..)
        have apy := apart_free ((ok.apart y x (hdn y hy).1 hxl (Ne.symm hyx.1) hyx.2).resolve_right fun hl => hix (hl i hi (Ne.symm hxi)))
        exact sameK_drop hc apy.1 apy.2 (hh.1 ho y (List.mem_cons_of_mem _ hy) hn)
      · simp only [List.cons_append, runD]
        refine hx _ ⟨fun ho => (by rw [hxo] at ho; cases ho), runD_sub hc (fun y hy => ?_) hh.2⟩
        simp only [List.mem_cons] at hy ⊢
        rcases hy with h | h | h
        · exact .inr (.inl h)
        · exact .inl h
        · exact .inr (.inr h)
    cases hio : drawObs L i with
    | true =>
      have hio' : (drawStep L i).ins.looksOnly = true := hio
      obtain ⟨u, g1, gagain⟩ := stepK_obs hio' ih
      have := goal _ _ g1 (fun K' hk => by
        rw [stepK_setD apx.1 apx.2]
        refine hagain _ ?_
        rw [setD_comm _ api.2]
        exact hk)
      rw [hio] at this
      exact gagain _ this
    | false =>
      refine stepK_mono hc (fun e' H' hh => ?_) ih
      have := goal e' H' hh (fun K' hk => sameK_again hxo' hself (hh.1 hio x (List.mem_cons_self ..) hxa) hk)
      rw [hio] at this
      exact this

end

end Go.Am
