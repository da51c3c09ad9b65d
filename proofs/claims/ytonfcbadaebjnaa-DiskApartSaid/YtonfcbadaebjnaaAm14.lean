/- The model's runs follow the abstract machine's: code, calls. -/
import Derived.Test.YtonfcbadaebjnaaAmD4
import Derived.Orders
namespace Go.Am
open Go Go.RowKit

section
variable {P : Program} {B : Base} {W0 : Bw} {call : CallK}

theorem CodePost.trans {n0 : Nat} {m m1 : Plcs} (hX : ∀ k, k < n0 → m k = m1 k) {Q : KQ} {e : Exit} {a : Act} {w : World} (h : CodePost W0 n0 m1 Q e a w) : CodePost W0 n0 m Q e a w := by
  obtain ⟨x, env, H', m', h1, h2, h3, h4, h5, h6⟩ := h
  exact ⟨x, env, H', m', h1, h2, h3, h4, ⟨h5.1, fun k hk => (hX k hk).trans (h5.2 k hk)⟩, h6⟩

/-- Code that does in the model what a predicate of the abstract machine says. -/
def TOk (P : Program) (W0 : Bw) (n0 : Nat) (T : Env → Heap → KQ → Prop) (c : Code) : Prop :=
  ∀ env H Q m a w, T env H Q → EnvR H.length m env a → a.defers = [] → Rel W0 m H w → n0 ≤ H.length → c.wp P (CodePost W0 n0 m Q) a w

def CodeNext (W0 : Bw) (n0 : Nat) (m : Plcs) (K : Env → Heap → Prop) (next : Act → World → Prop) : Prop :=
  ∀ env' H' m' a' w', K env' H' → EnvR H'.length m' env' a' → a'.defers = [] → (n0 ≤ H'.length ∧ ∀ k, k < n0 → m k = m' k) → Rel W0 m' H' w' → next a' w'

theorem Ext.to0 {n0 : Nat} {m m' : Plcs} {H H' : Heap} (h : Ext m m' H H') (hn : n0 ≤ H.length) : n0 ≤ H'.length ∧ ∀ k, k < n0 → m k = m' k :=
  ⟨Nat.le_trans hn h.len, fun k hk => h.same k (Nat.lt_of_lt_of_le hk hn)⟩

theorem then_ok {n0 : Nat} {m : Plcs} {Q : KQ} {N : Env → Heap → Prop} {nx : Act → World → Prop} (hn : CodeNext W0 n0 m N nx) : ∀ e a w, CodePost W0 n0 m (AExit.thenK N Q) e a w → Exit.then nx (CodePost W0 n0 m Q) e a w := fun e a w h => by
  obtain ⟨x, env, H', m', h1, h2, h3, h4, h5, h6⟩ := h
  cases x with
  | normal => cases e <;> simp only [ExitR] at h2; exact hn _ _ _ _ _ h1 h3 h4 h5 h6
  | exit i => cases e <;> simp only [ExitR] at h2; exact ⟨.exit i, env, H', m', h1, h2, h3, h4, h5, h6⟩
  | ret => cases e <;> simp only [ExitR] at h2; exact ⟨.ret, env, H', m', h1, trivial, h3, h4, h5, h6⟩

/-- A loop's head, met. -/
def LoopArr (P : Program) (c : Code) (Q : Exit → Act → World → Prop) (a : Act) (w : World) : Prop :=
  ∀ (b : Frame) (k : List Item) (cs : List Frame), ∃ e a' w', Q e a' w' ∧ Arrives P (lone (b.at a (.code c :: .inLoop c :: k)) cs w) b k cs e a' w'

theorem LoopArr.mono {c : Code} {Q Q' : Exit → Act → World → Prop} {a : Act} {w : World} (h : LoopArr P c Q a w) (hq : ∀ e a w, Q e a w → Q' e a w) : LoopArr P c Q' a w :=
  fun b k cs => let ⟨e, a', w', q, r⟩ := h b k cs; ⟨e, a', w', hq _ _ _ q, r⟩

theorem LoopArr.round {c : Code} {Q : Exit → Act → World → Prop} {a : Act} {w : World} (h : c.wp P (Exit.then (LoopArr P c Q) Q) a w) : LoopArr P c Q a w := by
  intro b k cs
  obtain ⟨e, a₁, w₁, hq, harr⟩ := h b (.inLoop c :: k) cs
  cases e with
  | normal =>
    obtain ⟨e₂, a₂, w₂, hq₂, harr₂⟩ := hq b k cs
    exact ⟨e₂, a₂, w₂, hq₂, .of_steps (Steps.trans harr (.one step_inLoop)) harr₂⟩
  | exit id => exact ⟨_, a₁, w₁, hq, .pass (x := .inLoop c) rfl (fun _ _ => .inl (by simp)) harr⟩
  | goto l => exact ⟨_, a₁, w₁, hq, .pass (x := .inLoop c) rfl (fun _ _ => .inl (by simp)) harr⟩
  | ret => exact ⟨_, a₁, w₁, hq, .pass (x := .inLoop c) rfl (fun _ _ => .inl (by simp)) harr⟩
  | panic ch => exact ⟨_, a₁, w₁, hq, .pass (x := .inLoop c) rfl (fun _ _ => .inl (by simp)) harr⟩
  | outgrown => exact ⟨_, a₁, w₁, hq, .pass (x := .inLoop c) rfl (fun _ _ => .inl (by simp)) harr⟩

theorem LoopArr.wp {c : Code} {Q : Exit → Act → World → Prop} {a : Act} {w : World} (h : LoopArr P c Q a w) : (Code.loop c).wp P Q a w := fun b k cs => by
  obtain ⟨e, a', w', q, r⟩ := h b k cs
  exact ⟨e, a', w', q, .of_steps (.one step_loop) r⟩

theorem loop_ok {n0 : Nat} {T : Env → Heap → KQ → Prop} {c : Code} (hT : TOk P W0 n0 T c) : TOk P W0 n0 (fun e h q => ALoop n0 T e h q) (.loop c) := by
  intro env H Q m a w h E hdef R hn
  refine LoopArr.wp ?_
  have key := h (fun e h => ∀ m a w, EnvR h.length m e a → a.defers = [] → Rel W0 m h w → n0 ≤ h.length → LoopArr P c (CodePost W0 n0 m Q) a w) ?_ ?_
  · exact key m a w E hdef R hn
  · intro e h hb m a w E hdef R hn
    refine LoopArr.round ?_
    refine wp_mono (hT e h _ m a w hb E hdef R hn) (then_ok (N := _) (nx := LoopArr P c (CodePost W0 n0 m Q)) ?_)
    intro env' H' m' a' w' hX E' hd' hExt R'
    exact (hX m' a' w' E' hd' R' hExt.1).mono fun e a w hq => hq.trans hExt.2
  · intro e h e2 h2 hc hX m a w E hdef R hn
    obtain ⟨m2, g1, g2, g3, g4⟩ := hc.ok hn R E
    exact (hX m2 a w g4 hdef g3 g1).mono fun e a w hq => hq.trans g2

theorem code_ok (hB : BaseOk B W0) (hcall : CallAll P B call) (hcm : CLe call call) {n0 : Nat} : ∀ (ac : AC) (c : Code), comp P c = some ac.plain → TOk P W0 n0 (fun e h q => awC B call (ALoop n0) ac e h q) c
  | .skip, c, hc => fun env H Q m a w h E hdef R hn => by
    cases c <;> simp only [comp, AC.plain] at hc
    case skip => exact wp_skip ⟨.normal, env, H, m, h, trivial, E, hdef, ⟨hn, fun _ _ => rfl⟩, R⟩
    case region id ops d => cases d <;> simp [comp] at hc
    case seq x y => split at hc <;> cases hc
    case cond x y z => split at hc <;> cases hc
    all_goals first | (cases hc; done) | (obtain ⟨_, _, e⟩ := map_some hc; cases e)
  | .ops l, c, hc => fun env H Q m a w h E hdef R hn => by
    cases c <;> simp only [comp, AC.plain] at hc
    case region id ops d =>
      cases d with
      | true => simp [comp] at hc
      | false =>
        simp only [comp, Option.some.injEq, AC.ops.injEq] at hc
        subst hc
        exact wp_region_list (run_ok hB (hcall _ hB) ops.toList E hdef R (by rw [← runG_eq]; exact h) fun env' H' m' a' w' hq E' hd' hX R' => ⟨.normal, env', H', m', hq, trivial, E', hd', hX.to0 hn, R'⟩)
    case seq x y => split at hc <;> cases hc
    case cond x y z => split at hc <;> cases hc
    all_goals first | (cases hc; done) | (obtain ⟨_, _, e⟩ := map_some hc; cases e)
  | .draw l, c, hc => fun env H Q m a w h E hdef R hn => by
    cases c <;> simp only [comp, AC.plain] at hc
    case region id ops d =>
      cases d with
      | false => simp [comp] at hc
      | true =>
        simp only [comp] at hc
        split at hc
        · rename_i hm
          obtain ⟨l', hl, e⟩ := map_some hc
          cases e
          exact draw_ok hB hcall hcm hm hl E hdef R.draw (by rw [← drawG_eq]; exact h) fun env' H' m' a' w' hq E' hd' hX R' => ⟨.normal, env', H', m', hq, trivial, E', hd', hX.to0 hn, R'⟩
        · cases hc
    case seq x y => split at hc <;> cases hc
    case cond x y z => split at hc <;> cases hc
    all_goals first | (cases hc; done) | (obtain ⟨_, _, e⟩ := map_some hc; cases e)
  | .seq x y, c, hc => fun env H Q m a w h E hdef R hn => by
    cases c <;> simp only [comp, AC.plain] at hc
    case seq x' y' =>
      split at hc
      · rename_i p q hx hy
        cases hc
        refine wp_seq (wp_mono (code_ok hB hcall hcm x x' hx env H _ m a w h E hdef R hn) (then_ok ?_))
        intro env' H' m' a' w' hN E' hd' hX R'
        exact wp_mono (code_ok hB hcall hcm y y' hy env' H' Q m' a' w' hN E' hd' R' hX.1) fun e a w hq => hq.trans hX.2
      · cases hc
    case region id ops d => cases d <;> simp [comp] at hc
    case cond x y z => split at hc <;> cases hc
    all_goals first | (cases hc; done) | (obtain ⟨_, _, e⟩ := map_some hc; cases e)
  | .keep l x, c, hc => fun env H Q m a w h E hdef R hn => code_ok hB hcall hcm x c hc (keepEnv l env) H Q m a w (awC_keep.1 h) (E.keep l) hdef R hn
  | .cond b x y, c, hc => fun env H Q m a w h E hdef R hn => by
    cases c <;> simp only [comp, AC.plain] at hc
    case cond b' x' y' =>
      split at hc
      · rename_i p q r hb hx hy
        cases hc
        obtain ⟨v, h1, hv⟩ := opd_ok E hb h
        obtain ⟨t, rfl, h2⟩ := pBool_iff.1 h1
        simp only [VR] at hv
        cases t with
        | true => exact wp_cond_true hv (code_ok hB hcall hcm x x' hx env H Q m a w (by simpa using h2) E hdef R hn)
        | false => exact wp_cond_false hv (code_ok hB hcall hcm y y' hy env H Q m a w (by simpa using h2) E hdef R hn)
      · cases hc
    case region id ops d => cases d <;> simp [comp] at hc
    case seq x y => split at hc <;> cases hc
    all_goals first | (cases hc; done) | (obtain ⟨_, _, e⟩ := map_some hc; cases e)
  | .block id x, c, hc => fun env H Q m a w h E hdef R hn => by
    cases c <;> simp only [comp, AC.plain] at hc
    case block id' x' =>
      obtain ⟨p, hx, e⟩ := map_some hc
      cases e
      refine wp_block (wp_mono (code_ok hB hcall hcm x x' hx env H _ m a w h E hdef R hn) ?_)
      intro e a w hq
      obtain ⟨xx, env', H', m', h1, h2, h3, h4, h5, h6⟩ := hq
      cases xx with
      | normal => cases e <;> simp only [ExitR] at h2; exact ⟨.normal, env', H', m', h1, trivial, h3, h4, h5, h6⟩
      | exit i =>
        cases e <;> simp only [ExitR] at h2
        subst h2
        simp only [AExit.blockK] at h1
        simp only [Exit.inBlock]
        split at h1
        · rename_i hi; rw [if_pos hi]; exact ⟨.normal, env', H', m', h1, trivial, h3, h4, h5, h6⟩
        · rename_i hi; rw [if_neg hi]; exact ⟨.exit i, env', H', m', h1, rfl, h3, h4, h5, h6⟩
      | ret => cases e <;> simp only [ExitR] at h2; exact ⟨.ret, env', H', m', h1, trivial, h3, h4, h5, h6⟩
    case region id ops d => cases d <;> simp [comp] at hc
    case seq x y => split at hc <;> cases hc
    case cond x y z => split at hc <;> cases hc
    all_goals first | (cases hc; done) | (obtain ⟨_, _, e⟩ := map_some hc; cases e)
  | .loop l x, c, hc => fun env H Q m a w h E hdef R hn => by
    cases c <;> simp only [comp, AC.plain] at hc
    case loop x' =>
      obtain ⟨p, hx, e⟩ := map_some hc
      cases e
      have hT : TOk P W0 n0 (fun e h q => awC B call (ALoop n0) x (if l.isEmpty then e else keepEnv l e) h q) x' := fun env H Q m a w h E hdef R hn => by
        split at h
        · exact code_ok hB hcall hcm x x' hx env H Q m a w h E hdef R hn
        · exact code_ok hB hcall hcm x x' hx _ H Q m a w h (E.keep l) hdef R hn
      exact loop_ok hT env H Q m a w h E hdef R hn
    case region id ops d => cases d <;> simp [comp] at hc
    case seq x y => split at hc <;> cases hc
    case cond x y z => split at hc <;> cases hc
    all_goals first | (cases hc; done) | (obtain ⟨_, _, e⟩ := map_some hc; cases e)
  | .exit id, c, hc => fun env H Q m a w h E hdef R hn => by
    cases c <;> simp only [comp, AC.plain] at hc
    case exit id' => cases hc; exact wp_exit ⟨.exit id, env, H, m, h, rfl, E, hdef, ⟨hn, fun _ _ => rfl⟩, R⟩
    case region id ops d => cases d <;> simp [comp] at hc
    case seq x y => split at hc <;> cases hc
    case cond x y z => split at hc <;> cases hc
    all_goals first | (cases hc; done) | (obtain ⟨_, _, e⟩ := map_some hc; cases e)
  | .ret, c, hc => fun env H Q m a w h E hdef R hn => by
    cases c <;> simp only [comp, AC.plain] at hc
    case ret => exact wp_ret ⟨.ret, env, H, m, h, trivial, E, hdef, ⟨hn, fun _ _ => rfl⟩, R⟩
    case region id ops d => cases d <;> simp [comp] at hc
    case seq x y => split at hc <;> cases hc
    case cond x y z => split at hc <;> cases hc
    all_goals first | (cases hc; done) | (obtain ⟨_, _, e⟩ := map_some hc; cases e)
  | .names, c, hc => fun env H Q m a w h E hdef R hn => by
    cases c <;> simp only [comp, AC.plain] at hc
    case region id ops d => cases d <;> simp [comp] at hc
    case seq x y => split at hc <;> cases hc
    case cond x y z => split at hc <;> cases hc
    all_goals first | (cases hc; done) | (obtain ⟨_, _, e⟩ := map_some hc; cases e)

/-! ### Calls -/
def resSem (a : Act) : ResultVar → Sem Value
  | .tmp t => pure (a.tmps.getD t undef)
  | .cell q t => do loadVar t (← asAddr (a.tmps.getD q undef))

theorem results_eq (g : Func) (a : Act) : results g a.tmps = (do
    let vs ← g.results.mapM (resSem a)
    pure (if h : vs.size = 1 then vs[0] else .tuple vs)) := by
  unfold results
  congr 1

theorem ress_ok (hB : BaseOk B W0) {m : Plcs} {H : Heap} {w : World} {env : Env} {a : Act} (E : EnvR H.length m env a) (R : Rel W0 m H w) : ∀ {rs : List ResultVar} {l : List (Nat × Option (Option Ty × Nat))}, compRess P rs = some l → ∀ {K : List AV → Prop}, ressK B env H l K →
    ∃ vs xs, K vs ∧ (rs.mapM (resSem a)).run P w = .ok xs w ∧ VRL H.length m vs xs
  | [], l, h, K, hk => by simp only [compRess] at h; cases h; exact ⟨[], [], hk, by simp, by simp [VRL]⟩
  | r :: rs, l, h, K, hk => by
    simp only [compRess] at h
    split at h
    · rename_i x l' hr hl
      cases h
      have slot : ∀ {t : Nat} {Q : AV → Prop}, ob (env.f t) Q → ∃ v, Q v ∧ VR H.length m v (a.tmps.getD t undef) := fun {t} {Q} hq => by
        obtain ⟨v, hv, hq⟩ := ob_iff.1 hq
        exact ⟨v, hq, E.2 t v hv⟩
      cases r with
      | tmp t =>
        simp only [compRes] at hr; cases hr
        simp only [ressK] at hk
        obtain ⟨v, hk, hv⟩ := slot hk
        obtain ⟨vs, xs, h1, h2, h3⟩ := ress_ok hB E R hl hk
        refine ⟨v :: vs, _ :: xs, h1, ?_, by simp only [VRL]; exact ⟨_, _, rfl, hv, h3⟩⟩
        rw [List.mapM_cons]
        have e0 : resSem a (.tmp t) = pure (a.tmps.getD t undef) := rfl
        rw [e0]
        simp only [Sem.run_bind, Sem.run_pure, Result.andThen_ok, h2]
      | cell q t =>
        have e0 : resSem a (.cell q t) = (asAddr (a.tmps.getD q undef) >>= fun z => loadVar t z) := rfl
        simp only [compRes] at hr
        split at hr
        · rename_i n b ht hi
          cases hr
          simp only [ressK] at hk
          obtain ⟨p, hk, hp⟩ := slot hk
          obtain ⟨c, hc, hk⟩ := ob_iff.1 hk
          have hld := ok_ldA (K := fun v H' => v = .agg c ∧ H' = H) hB R ht hi hp (by rw [hc]; exact ⟨rfl, rfl⟩)
          obtain ⟨v, H', m', x, w', ⟨rfl, rfl⟩, g2, g3, g4, g5⟩ := hld
          obtain ⟨vs, xs, h1, h2, h3⟩ := ress_ok hB E R hl hk
          unfold peekN at hc
          split at hc
          · rename_i o j
            obtain ⟨_, hpe⟩ := VR_ptr hp
            obtain ⟨h0, ys, y1, y2, y3⟩ := R.cellsAt hB hc
            obtain ⟨inf, i1, i2, _⟩ := infoOf_some hi
            have hload := run_loadCells_list (P := P) w (adr m o j) ys y3
            refine ⟨.agg c :: vs, .agg ys.toArray :: xs, h1, ?_, by simp only [VRL, VR]; exact ⟨_, _, rfl, ⟨h0, _, rfl, by simpa using y2⟩, h3⟩⟩
            rw [List.mapM_cons, e0, Sem.run_bind, Sem.run_bind, hpe]
            simp only [Sem.run_bind, asAddr, Sem.run_pure, Result.andThen_ok, loadVar, tyOf_agg ht, if_true, run_size i1, i2, ← y1, hload, h2]
          · cases hc
        · rename_i y n b ht hi
          cases hr
          simp only [ressK] at hk
          obtain ⟨p, hk, hp⟩ := slot hk
          obtain ⟨c, hc, hk⟩ := ob_iff.1 hk
          have hk := (tyK_imp hk).2
          obtain ⟨vs, xs, h1, h2, h3⟩ := ress_ok hB E R hl hk
          obtain ⟨o, j, cs, rfl, hcs, hij⟩ := peek_iff.1 hc
          obtain ⟨_, hpe⟩ := VR_ptr hp
          obtain ⟨_, z, hz, hzr⟩ := R.cell hB hcs hij
          refine ⟨c :: vs, z :: xs, h1, ?_, by simp only [VRL]; exact ⟨_, _, rfl, hzr, h3⟩⟩
          rw [List.mapM_cons, e0, Sem.run_bind, Sem.run_bind, hpe]
          simp only [Sem.run_bind, asAddr, Sem.run_pure, Result.andThen_ok, loadVar, tyOf_one ht, Bool.false_eq_true, if_false, run_load, hz, h2]
        · cases hr
    · cases h

theorem results_ok (hB : BaseOk B W0) {m : Plcs} {H : Heap} {w : World} {env : Env} {a : Act} (E : EnvR H.length m env a) (R : Rel W0 m H w) {g : Func} {l : List (Nat × Option (Option Ty × Nat))} (hl : compRess P g.results.toList = some l) {K : AV → Prop} (h : ressK B env H l fun vs => K (resultOf vs)) :
    ∃ v x, K v ∧ (results g a.tmps).run P w = .ok x w ∧ VR H.length m v x := by
  obtain ⟨vs, xs, h1, h2, h3⟩ := ress_ok hB E R hl h
  have hrun : (results g a.tmps).run P w = .ok (if h : xs.toArray.size = 1 then xs.toArray[0] else .tuple xs.toArray) w := by
    rw [results_eq, Array.mapM_eq_mapM_toList]
    simp only [Sem.run_bind, Sem.run_map]
    rw [h2]
    rfl
  refine ⟨_, _, h1, hrun, ?_⟩
  have hlen := VRL_len h3
  cases vs with
  | nil =>
    have : xs = [] := List.eq_nil_of_length_eq_zero (by simpa using hlen)
    subst this
    simp [resultOf, VR, VRL]
  | cons v vs =>
    cases vs with
    | nil =>
      simp only [VRL] at h3
      obtain ⟨y, r, rfl, hv, rfl⟩ := h3
      simpa [resultOf] using hv
    | cons u vs =>
      have hne : ¬ (xs.toArray.size = 1) := by simp only [List.size_toArray]; simp at hlen; omega
      rw [dif_neg hne]
      simp only [resultOf, VR]
      exact ⟨_, rfl, h3⟩

/-- A function that is not translated: what it comes to is proved at the program itself. -/
structure FnNat (P : Program) (f : FuncId) (fn : AFunc) : Prop where
  is : ∃ g, P.funcs[f]? = some g ∧ g.name ≠ "runtime.NumGoroutine" ∧ g.body.isSome = true
  run : ∀ {B : Base} {W0 : Bw} {call : CallK} {loop : LoopK} {as : List AV} {H : Heap} {Q : AV → Heap → Prop} {m : Plcs} {w : World} {args : Array Value}, BaseOk B W0 → fnK B call loop fn as H Q → Rel W0 m H w → VRL H.length m as args.toList → Calls P f args w (RetOk W0 m H Q)
/-- A table of functions, all of them translated, or proved at the program. -/
def TableOk (P : Program) (F : FuncId → Option AFunc) : Prop := ∀ f fn, F f = some fn → FnOk P f fn ∨ FnNat P f fn
theorem FnNat.ok {P : Program} {B : Base} {W0 : Bw} {call : CallK} (hB : BaseOk B W0) {f : FuncId} {fn : AFunc} (hf : FnNat P f fn) {as : List AV} {H : Heap} {Q : AV → Heap → Prop} (h : LowH H.length H → LowL H.length as → fnK B call (ALoop H.length) fn as H (tidyK H.length Q)) {m : Plcs} {w : World} {args : Array Value} (R : Rel W0 m H w) (hv : VRL H.length m as args.toList) :
    Calls P f args w (RetOk W0 m H Q) := by
  refine (hf.run hB (h R.low (lowL_of_VRL _ _ hv)) R hv).mono fun e w' hr => ?_
  obtain ⟨v, H', m', x, r1, r2, r3, r4, r5⟩ := hr
  rcases r1 with r1 | ⟨v2, H2, hc, r1⟩
  · exact ⟨v, H', m', x, r1, r2, r3, r4, r5⟩
  · obtain ⟨m2, g1, g2, g3, g4⟩ := hc.ok r4 r5
    exact ⟨v2, H2, m2, x, r1, r2, ⟨g1, fun k hk => (r3.2 k hk).trans (g2 k hk)⟩, g3, g4⟩

theorem fn_ok (hB : BaseOk B W0) (hcall : CallAll P B call) (hcm : CLe call call) {f : FuncId} {fn : AFunc} (hf : FnOk P f fn) {as : List AV} {H : Heap} {Q : AV → Heap → Prop} (h : LowH H.length H → LowL H.length as → fnK B call (ALoop H.length) fn as H (tidyK H.length Q)) {m : Plcs} {w : World} {args : Array Value} (R : Rel W0 m H w) (hv : VRL H.length m as args.toList) :
    Calls P f args w (RetOk W0 m H Q) := by
  obtain ⟨g, c, h1, h2, h3, h4, h5, h6⟩ := hf.is
  refine calls_of_wp h1 h2 ?_
  have E : EnvR H.length m (argsEnv fn.slots as) { tmps := args ++ Array.replicate (g.ntmps - args.size) undef, defers := [] } := by
    have hl : args.size = as.length := by simpa using VRL_len hv
    refine ⟨by simp [argsEnv, ev, h5, hl, lenAcc_eq], fun t v ht => ?_⟩
    obtain ⟨x, _, g2, g3⟩ := assoc_numb 0 hv ht
    show VR _ _ _ ((args ++ Array.replicate (g.ntmps - args.size) undef).getD t undef)
    simp only [Nat.sub_zero, Array.getElem?_toList] at g2
    have hlt : t < args.size := by
      rcases Nat.lt_or_ge t args.size with h | h
      · exact h
      · rw [Array.getElem?_eq_none h] at g2; cases g2
    rw [Array.getD_eq_getD_getElem?, Array.getElem?_append_left hlt, g2]
    exact g3
  refine wp_mono (code_ok hB hcall hcm fn.code c h4 _ H _ m _ w (h R.low (lowL_of_VRL _ _ hv)) E rfl R (Nat.le_refl _)) fun e a w' hq => ?_
  obtain ⟨x, env', H', m', q1, q2, q3, q4, q5, q6⟩ := hq
  have fin : (ressK B env' H' fn.res fun vs => tidyK H.length Q (resultOf vs) H') → a.defers = [] ∧ ∃ v, (results g a.tmps).run P w' = .ok v w' ∧ RetOk W0 m H Q (.returned v) w' := fun hr => by
    obtain ⟨v, y, r1, r2, r3⟩ := results_ok (K := fun v => tidyK H.length Q v H') hB q3 q6 h6 hr
    rcases r1 with r1 | ⟨v2, H2, hc, r1⟩
    · exact ⟨q4, y, r2, v, H', m', y, r1, rfl, ⟨q5.1, q5.2⟩, q6, r3⟩
    · obtain ⟨m2, g1, g2, g3, g4⟩ := hc.ok q6 r3
      exact ⟨q4, y, r2, v2, H2, m2, y, r1, rfl, ⟨g1, fun k hk => (q5.2 k hk).trans (g2 k hk)⟩, g3, g4⟩
  cases x with
  | normal => cases e <;> simp only [ExitR] at q2; exact fin q1
  | exit i => exact q1.elim
  | ret => cases e <;> simp only [ExitR] at q2; exact fin q1

theorem call_all {F : FuncId → Option AFunc} (hF : TableOk P F) : CallAll P B (ACall B F) := by
  intro W0 hB f as H Q h
  have key := h (fun f as H Q => (∃ g, P.funcs[f]? = some g ∧ g.name ≠ "runtime.NumGoroutine" ∧ g.body.isSome = true) ∧
    ∀ W0, BaseOk B W0 → ∀ m w args, Rel W0 m H w → VRL H.length m as args.toList → Calls P f args w (RetOk W0 m H Q)) ?_
  · exact ⟨key.1, key.2 W0 hB⟩
  · rintro f as H Q ⟨fn, hfn, hb⟩
    rcases hF f fn hfn with hok | hok
    rotate_left
    · exact ⟨hok.is, fun W0 hB m w args R hv => hok.ok hB hb R hv⟩
    refine ⟨?_, fun W0 hB m w args R hv => fn_ok hB ?_ ?_ hok hb R hv⟩
    · obtain ⟨g, c, h1, h2, h3, _⟩ := hok.is
      exact ⟨g, h1, h3, by rw [h2]; rfl⟩
    · intro W1 hB1 f as H Q hx
      exact ⟨hx.1, hx.2 W1 hB1⟩
    · rintro f as H Q Q' hq ⟨h1, h2⟩
      exact ⟨h1, fun W1 hB1 m w args R hv => (h2 W1 hB1 m w args R hv).mono fun e w' hr => hr.mono hq⟩
theorem call_ok (hB : BaseOk B W0) {F : FuncId → Option AFunc} (hF : TableOk P F) : CallSim P W0 (ACall B F) := call_all hF W0 hB

end

end Go.Am
