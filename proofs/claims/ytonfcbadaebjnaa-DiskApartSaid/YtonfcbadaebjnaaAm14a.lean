/- The model's runs follow the abstract machine's: steps, code, calls. -/
import Derived.Test.YtonfcbadaebjnaaAmM
import Derived.Test.YtonfcbadaebjnaaAmI
import Derived.Orders
namespace Go.Am
open Go Go.RowKit

section
variable {P : Program} {B : Base} {W0 : Bw} {call : CallK}

theorem yielded_eq {ops : Array Oper} {a : Act} {j : Nat} {d : Nat} (hd : (ops[j]?).bind (·.dst) = some d) {b : Bool} (hb : a.tmps[d]? = some (.bool b)) : yielded ops a.tmps j = some b := by
  simp [yielded, hd, hb]

/-- The rest of a region, as it is met behind a step. -/
def StepNext (W0 : Bw) (m : Plcs) (H : Heap) (K : Env → Heap → Prop) (next : Act → World → Prop) : Prop :=
  ∀ env' H' m' a' w', K env' H' → EnvR H'.length m' env' a' → a'.defers = [] → Ext m m' H H' → Rel W0 m' H' w' → next a' w'

theorem put_defers (a : Act) (d : Option Nat) (x : Value) : (a.put d x).defers = a.defers := by cases d <;> rfl

theorem nx_ok {m : Plcs} {H : Heap} {w : World} {env : Env} {a : Act} {K : AV → Heap → Prop} (E : EnvR H.length m env a) (R : Rel W0 m H w) {o : Oper} {ins : AIns} (hc : compOp P o = some ins) (hi : (∃ x, ins = .next x) ∨ ∃ x, ins = .entry x) (h : insK B call env H K ins) : OpOk P W0 m H w K (execOp a.eval o) := by
  have no : ∀ {α : Type} {q : Option α} {f : α → AOp}, q.map (fun x => AIns.op (f x)) = some ins → False := fun {α} {q} {f} e => by
    obtain ⟨x, _, e⟩ := map_some e
    subst e
    rcases hi with ⟨_, e⟩ | ⟨_, e⟩ <;> cases e
  obtain ⟨dst, op, ty, pos, after, guard⟩ := o
  cases op with
  | next it s =>
    cases s with
    | true => simp [compOp] at hc
    | false =>
      simp only [compOp] at hc
      obtain ⟨x, hx, e⟩ := map_some hc
      subst e
      exact (next_ok E R hx h).op
  | entry it =>
    simp only [compOp] at hc
    obtain ⟨x, hx, e⟩ := map_some hc
    subst e
    exact (entry_ok E R hx h).op
  | call c =>
    exfalso
    obtain ⟨callee, xs, ts⟩ := c
    simp only [compOp, compCall] at hc
    repeat' (split at hc)
    all_goals first
      | (cases hc; rcases hi with ⟨_, e⟩ | ⟨_, e⟩ <;> cases e; done)
      | (cases hc; done)
      | (obtain ⟨_, _, e⟩ := map_some hc; subst e; rcases hi with ⟨_, e⟩ | ⟨_, e⟩ <;> cases e; done)
  | makeMap t r => cases r <;> simp only [compOp] at hc <;> cases hc <;> rcases hi with ⟨_, e⟩ | ⟨_, e⟩ <;> cases e
  | _ =>
    exfalso
    simp only [compOp] at hc
    repeat' (split at hc)
    all_goals first
      | (cases hc; rcases hi with ⟨_, e⟩ | ⟨_, e⟩ <;> cases e; done)
      | (obtain ⟨_, _, e⟩ := map_some hc; subst e; rcases hi with ⟨_, e⟩ | ⟨_, e⟩ <;> cases e; done)
      | (cases hc; done)

theorem ins_ok (hB : BaseOk B W0) (hcall : CallSim P W0 call) {m : Plcs} {H : Heap} {w : World} {env : Env} {a : Act} (E : EnvR H.length m env a) (hdef : a.defers = []) (R : Rel W0 m H w) {o : Oper} {ins : AIns} (hc : compOp P o = some ins)
    {K : Env → Heap → Prop} (h : insK B call env H (fun v H' => resK env o.dst v H' K) ins) {next : Act → World → Prop} {Q : Exit → Act → World → Prop} (hn : StepNext W0 m H K next) : o.wp P a w next Q := by
  unfold Oper.wp
  cases ins with
  | op ao =>
    have h' : aop B env H (fun v H' => resK env o.dst v H' K) ao := h
    obtain ⟨v, H', m', x, w', nx, h1, h2, h3, h4, h5, h6⟩ := aop_ok hB E R hc h'
    rw [h2]
    simp only [resK_eq] at h1
    have E' := (E.ext h4).put o.dst h6
    rcases h3 with rfl | ⟨rfl, rfl⟩
    · exact hn _ _ _ _ _ h1 E' (by rw [put_defers]; exact hdef) h4 h5
    · exact hn _ _ _ _ _ h1 E' (by rw [put_defers]; exact hdef) h4 h5
  | call cal args y =>
    have hcc : ∃ c, o.op = .call c ∧ compCall P o.type c = some (.call cal args y) := by
      obtain ⟨dst, op, ty, pos, after, guard⟩ := o
      cases op with
      | call c => exact ⟨c, rfl, by simpa [compOp] using hc⟩
      | move x => simp only [compOp] at hc; obtain ⟨_, _, e⟩ := map_some hc; cases e
      | assign x => simp only [compOp] at hc; obtain ⟨_, _, e⟩ := map_some hc; cases e
      | alloc x => simp only [compOp] at hc; obtain ⟨_, _, e⟩ := map_some hc; cases e
      | nilCheck x => simp only [compOp] at hc; obtain ⟨_, _, e⟩ := map_some hc; cases e
      | binOp _ _ _ _ _ => simp only [compOp] at hc; obtain ⟨_, _, e⟩ := map_some hc; cases e
      | convert _ _ _ => simp only [compOp] at hc; obtain ⟨_, _, e⟩ := map_some hc; cases e
      | next it s =>
        cases s with
        | true => simp [compOp] at hc
        | false => simp only [compOp] at hc; obtain ⟨_, _, e⟩ := map_some hc; cases e
      | makeMap t r => cases r <;> simp only [compOp] at hc <;> cases hc
      | _ =>
        exfalso
        simp only [compOp] at hc
        repeat' (split at hc)
        all_goals first
          | (cases hc; done)
          | (obtain ⟨_, _, e⟩ := map_some hc; cases e; done)
    obtain ⟨c, ho, hcc⟩ := hcc
    obtain ⟨f, as, xs, hf, hrun, hxs⟩ := callee_ok hB hcall E R hcc h ho
    rw [hrun]
    show Calls P f xs w _
    obtain ⟨_, hsim⟩ := hcall f as H _ hf
    refine (hsim m w xs R hxs).mono fun e w' hr => ?_
    obtain ⟨v, H', m', x, hk, rfl, hE, hR, hv⟩ := hr
    have hk' := (tyK_imp hk).2
    simp only [resK_eq] at hk'
    exact hn _ _ _ _ _ hk' ((E.ext hE).put o.dst hv) (by rw [put_defers]; exact hdef) hE hR
  | next it =>
    obtain ⟨v, H', m', x, w', nx, h1, h2, h3, h4, h5, h6⟩ := nx_ok E R hc (.inl ⟨_, rfl⟩) h
    rw [h2]
    simp only [resK_eq] at h1
    have E' := (E.ext h4).put o.dst h6
    rcases h3 with rfl | ⟨rfl, rfl⟩
    · exact hn _ _ _ _ _ h1 E' (by rw [put_defers]; exact hdef) h4 h5
    · exact hn _ _ _ _ _ h1 E' (by rw [put_defers]; exact hdef) h4 h5
  | entry it =>
    obtain ⟨v, H', m', x, w', nx, h1, h2, h3, h4, h5, h6⟩ := nx_ok E R hc (.inr ⟨_, rfl⟩) h
    rw [h2]
    simp only [resK_eq] at h1
    have E' := (E.ext h4).put o.dst h6
    rcases h3 with rfl | ⟨rfl, rfl⟩
    · exact hn _ _ _ _ _ h1 E' (by rw [put_defers]; exact hdef) h4 h5
    · exact hn _ _ _ _ _ h1 E' (by rw [put_defers]; exact hdef) h4 h5
  | bad n => exact h.elim

theorem EnvR.bool {n : Nat} {m : Plcs} {env : Env} {a : Act} (E : EnvR n m env a) {d : Nat} {b : Bool} (h : env.f d = some (.bool b)) : a.tmps[d]? = some (.bool b) := by
  have := E.2 d _ h
  rw [Array.getD_eq_getD_getElem?] at this
  simp only [VR] at this
  cases hx : a.tmps[d]? with
  | none => rw [hx] at this; simp [undef] at this
  | some x => rw [hx] at this; simp at this; rw [this]

theorem step_ok (hB : BaseOk B W0) (hcall : CallSim P W0 call) {ops : Array Oper} {o : Oper} {m : Plcs} {H : Heap} {w : World} {env : Env} {a : Act} (E : EnvR H.length m env a) (hdef : a.defers = []) (R : Rel W0 m H w)
    {K : Env → Heap → Prop} (h : stepK B call (compStep P ops o) env H K) {next : Act → World → Prop} {Q : Exit → Act → World → Prop} (hn : StepNext W0 m H K next) :
    if Region.wanted o (yielded ops a.tmps) then o.wp P a w next Q else next (a.put o.dst undef) w := by
  have hins : ∀ {K' : AV → Heap → Prop}, insK B call env H K' (compStep P ops o).ins → ∃ ins, compOp P o = some ins ∧ (compStep P ops o).ins = ins := fun {K'} hi => by
    cases hc : compOp P o with
    | none => simp only [compStep, hc, insK] at hi
    | some ins => exact ⟨ins, rfl, by simp [compStep, hc]⟩
  have hskip : K (match o.dst with | some t => env.upd t (.tuple []) | none => env) H → next (a.put o.dst undef) w := fun hk =>
    hn _ _ m _ _ hk (E.put o.dst (by simp [VR, VRL, undef])) (by rw [put_defers]; exact hdef) (Ext.refl _ _) R
  unfold stepK at h
  cases hg : o.guard with
  | none =>
    have : (compStep P ops o).guard = none := by simp [compStep, hg]
    rw [this] at h
    simp only at h
    obtain ⟨ins, hc, hi⟩ := hins h
    rw [hi] at h
    rw [if_pos (by simp [Region.wanted, hg])]
    exact ins_ok hB hcall E hdef R hc h hn
  | some g =>
    obtain ⟨j, want⟩ := g
    have : (compStep P ops o).guard = some ((ops[j]?).bind (·.dst), want) := by simp [compStep, hg]
    rw [this] at h
    cases hd : (ops[j]?).bind (·.dst) with
    | none => rw [hd] at h; exact h.elim
    | some d =>
      rw [hd] at h
      simp only at h
      obtain ⟨v, hv, ha⟩ := ob_iff.1 h
      rcases pGuard_iff.1 ha with ⟨b, rfl, hb⟩ | ⟨rfl, hs⟩
      rotate_left
      · have hx := E.2 d _ hv
        have hno : yielded ops a.tmps j = none := by
          unfold yielded
          rw [hd]
          simp only [Option.bind_some]
          rw [Array.getD_eq_getD_getElem?] at hx
          cases ht : a.tmps[d]? with
          | none => rfl
          | some x =>
            rw [ht] at hx
            simp only [Option.getD_some, VR] at hx
            obtain ⟨l', rfl, _⟩ := hx
            rfl
        rw [if_neg (by simp [Region.wanted, hg, hno])]
        simp only [resK_eq] at hs
        exact hskip hs
      clear h ha
      have h := hb
      clear hb
      have hy := E.bool hv
      have hyl := yielded_eq (ops := ops) (a := a) (j := j) hd hy
      by_cases hbw : b = want
      · rw [if_pos hbw] at h
        obtain ⟨ins, hc, hi⟩ := hins h
        rw [hi] at h
        rw [if_pos (by simp [Region.wanted, hg, hyl, hbw])]
        exact ins_ok hB hcall E hdef R hc h hn
      · rw [if_neg hbw] at h
        rw [if_neg (by simp [Region.wanted, hg, hyl, hbw])]
        simp only [resK_eq] at h
        exact hskip h

theorem run_ok (hB : BaseOk B W0) (hcall : CallSim P W0 call) {ops : Array Oper} {Q : Exit → Act → World → Prop} : ∀ (l : List Oper) {m : Plcs} {H : Heap} {w : World} {env : Env} {a : Act} {K : Env → Heap → Prop}, EnvR H.length m env a → a.defers = [] → Rel W0 m H w →
    runK B call (l.map (compStep P ops)) env H K → StepNext W0 m H K (Q .normal) → wpList P ops Q l a w
  | [], m, H, w, env, a, K, E, hdef, R, h, hn => hn _ _ _ _ _ h E hdef (Ext.refl _ _) R
  | o :: l, m, H, w, env, a, K, E, hdef, R, h, hn => by
    simp only [List.map_cons, runK] at h
    have := step_ok (next := wpList P ops Q l) (Q := Q) hB hcall E hdef R h (fun env' H' m' a' w' hk hE hd hX hR =>
      run_ok hB hcall l hE hd hR hk fun env2 H2 m2 a2 w2 hk2 hE2 hd2 hX2 hR2 => hn _ _ _ _ _ hk2 hE2 hd2 (hX.trans hX2) hR2)
    refine wpList_step fun K' hK' => ?_
    split at this
    · rename_i hw
      rw [if_pos hw]
      exact Oper.wp_mono hK' this
    · rename_i hw
      rw [if_neg hw]
      exact hK' _ _ this

end
end Go.Am
