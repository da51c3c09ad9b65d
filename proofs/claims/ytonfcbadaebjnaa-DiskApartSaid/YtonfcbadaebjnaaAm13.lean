/- The abstract machine's runs: code, loops, calls, as the least predicates that are closed; and that the model's runs follow them. -/
import Derived.Test.YtonfcbadaebjnaaAm12
import Derived.Test.YtonfcbadaebjnaaAmR
namespace Go.Am
open Go Go.RowKit

/-- A region that draws its order; behind each step its guard is known. -/
def drawG (B : Base) (call : CallK) : List (AStep × List AStep) → Env → Heap → (Env → Heap → Prop) → Prop
  | [], env, H, K => K env H
  | (s, rs) :: r, env, H, K => stepG B call s env H fun env' H' => samesK B call rs env' H' (drawG B call r env' H' K)
theorem drawG_eq (B : Base) (call : CallK) : ∀ (l : List (AStep × List AStep)) (env : Env) (H : Heap) (K : Env → Heap → Prop), drawG B call l env H K = drawK B call l env H K
  | [], _, _, _ => rfl
  | (s, rs) :: r, env, H, K => by
    simp only [drawG, drawK, stepG_eq]
    congr 1
    funext e h
    rw [drawG_eq B call r e h K]

/-- A loop: the least that is closed under a round, and under tidying up what came behind the first n0 objects. -/
def ALoop (n0 : Nat) (T : Env → Heap → KQ → Prop) (env : Env) (H : Heap) (Q : KQ) : Prop :=
  ∀ X : Env → Heap → Prop, (∀ e h, T e h (AExit.thenK X Q) → X e h) → (∀ e h e2 h2, CleanE n0 h e h2 e2 → X e2 h2 → X e h) → X env H

/-- What is kept; a type of its own, so that the kernel stops here. -/
structure Keep (e : Env) (K : Env → Prop) : Prop where
  is : K e

/-- The names in a map that a variable's first cell holds, sorted; none where its fourth cell says so (a whole function: it is not translated, its contract is proved at the program). -/
def namesK (env : Env) (H : Heap) (K : AV → Heap → Prop) : Prop :=
  ∃ (d m : Nat) (c1 c2 : AV) (down : Bool) (r : List AV) (es : List (AV × AV × Nat)) (clock : Nat), env.n = 1 ∧ env.f 0 = some (.ptr (some (.new d, 0))) ∧ H[d]? = some (.var (.map (some (.new m)) :: c1 :: c2 :: .bool down :: r)) ∧ H[m]? = some (.map es clock) ∧
    (down = true → K .nils H) ∧ (down = false → ∃ ks : List (List UInt8), es.map (·.1) = ks.map AV.str ∧ ks.Nodup ∧ (∀ e, e ∈ es → e.2.2 < clock) ∧ (es.map (·.2.2)).Nodup ∧ ks.length ≤ 1000000 ∧ (∀ s, s ∈ ks → s.length ≤ 1000000) ∧
      (ks = [] → K .nils H) ∧ (ks ≠ [] → ∀ ss : List (List UInt8), ss.Perm ks → K (.slice (.new H.length) 0 ks.length 1 none) (H ++ [.arr ((ss.mergeSort fun x y => decide (x ≤ y)).map AV.str)])))
theorem namesK_mono {env : Env} {H : Heap} {K K' : AV → Heap → Prop} (hk : ∀ v h, K v h → K' v h) (h : namesK env H K) : namesK env H K' := by
  obtain ⟨d, m, c1, c2, down, r, es, clock, h0, h1, h2, h3, h4, h5⟩ := h
  refine ⟨d, m, c1, c2, down, r, es, clock, h0, h1, h2, h3, fun e => hk _ _ (h4 e), fun e => ?_⟩
  obtain ⟨ks, g1, g2, g3, g4, g5, g6, g7, g8⟩ := h5 e
  exact ⟨ks, g1, g2, g3, g4, g5, g6, fun e => hk _ _ (g7 e), fun e ss hs => hk _ _ (g8 e ss hs)⟩

def awC (B : Base) (call : CallK) (loop : LoopK) : AC → Env → Heap → KQ → Prop
  | .skip, env, H, Q => Q .normal env H
  | .ops l, env, H, Q => runG B call l env H fun e h => Q .normal e h
  | .draw l, env, H, Q => drawG B call l env H fun e h => Q .normal e h
  | .seq a b, env, H, Q => awC B call loop a env H (AExit.thenK (fun e h => awC B call loop b e h Q) Q)
  | .keep l a, env, H, Q => Keep (ev env.n (vals l env)) fun e => awC B call loop a e H Q
  | .cond c a b, env, H, Q => opK env c fun v => pBool v fun t => if t = true then awC B call loop a env H Q else awC B call loop b env H Q
  | .block id a, env, H, Q => awC B call loop a env H (AExit.blockK id Q)
  | .loop l a, env, H, Q => loop (fun e h q => awC B call loop a (if l.isEmpty then e else keepEnv l e) h q) env H Q
  | .exit id, env, H, Q => Q (.exit id) env H
  | .ret, env, H, Q => Q .ret env H
  | .names, env, H, Q => namesK env H fun v H' => Q .ret (env.upd 0 v) H'

theorem awC_keep {B : Base} {call : CallK} {loop : LoopK} {l : List Nat} {a : AC} {env : Env} {H : Heap} {Q : KQ} : awC B call loop (.keep l a) env H Q ↔ awC B call loop a (keepEnv l env) H Q :=
  ⟨fun h => h.is, fun h => ⟨h⟩⟩

structure AFunc where
  slots : Nat
  res : List (Nat × Option (Option Ty × Nat))
  code : AC
  deriving Inhabited

/-- A function's results: slots, or what variables hold. -/
def ressK (B : Base) (env : Env) (H : Heap) : List (Nat × Option (Option Ty × Nat)) → (List AV → Prop) → Prop
  | [], K => K []
  | (t, none) :: r, K => ob (env.f t) fun v => ressK B env H r fun vs => K (v :: vs)
  | (t, some (some y, _)) :: r, K => ob (env.f t) fun p => ob (peek B H p) fun v => tyK y v fun v => ressK B env H r fun vs => K (v :: vs)
  | (t, some (none, n)) :: r, K => ob (env.f t) fun p => ob (peekN B H n p) fun c => ressK B env H r fun vs => K (.agg c :: vs)

def resultOf : List AV → AV
  | [v] => v
  | vs => .tuple vs

def fnK (B : Base) (call : CallK) (loop : LoopK) (fn : AFunc) (args : List AV) (H : Heap) (Q : AV → Heap → Prop) : Prop :=
  awC B call loop fn.code (argsEnv fn.slots args) H fun x env' H' => match x with
    | .exit _ => False
    | _ => ressK B env' H' fn.res fun vs => Q (resultOf vs) H'

/-- What is asked behind a call, of memory as it is or tidied. -/
def tidyK (n0 : Nat) (Q : AV → Heap → Prop) (v : AV) (H : Heap) : Prop :=
  Q v H ∨ ∃ v2 H2, CleanV n0 H v H2 v2 ∧ Q v2 H2

/-- A call: the least that is closed under the functions' bodies. -/
def ACall (B : Base) (F : FuncId → Option AFunc) : CallK := fun f args H Q =>
  ∀ X : CallK, (∀ f args H Q, (∃ fn, F f = some fn ∧ (LowH H.length H → LowL H.length args → fnK B X (ALoop H.length) fn args H (tidyK H.length Q))) → X f args H Q) → X f args H Q

/-- The code without what is forgotten. -/
def AC.plain : AC → AC
  | .seq a b => .seq a.plain b.plain
  | .keep _ a => a.plain
  | .cond c a b => .cond c a.plain b.plain
  | .block id a => .block id a.plain
  | .loop _ a => .loop [] a.plain
  | c => c

def compRes (P : Program) (r : ResultVar) : Option (Nat × Option (Option Ty × Nat)) :=
  match r with
  | .tmp t => some (t, none)
  | .cell a t => match tyOf P t, infoOf P t with
    | some .agg, some (n, _) => some (a, some (none, n))
    | some (.one y), some (n, _) => some (a, some (some y, n))
    | _, _ => none

def compRess (P : Program) : List ResultVar → Option (List (Nat × Option (Option Ty × Nat)))
  | [] => some []
  | r :: l => match compRes P r, compRess P l with
    | some a, some b => some (a :: b)
    | _, _ => none

/-- A function and its translation. -/
structure FnOk (P : Program) (f : FuncId) (fn : AFunc) : Prop where
  is : ∃ g c, P.funcs[f]? = some g ∧ g.body = some c ∧ g.name ≠ "runtime.NumGoroutine" ∧ comp P c = some fn.code.plain ∧ g.ntmps = fn.slots ∧ compRess P g.results.toList = some fn.res

/-- What a call comes to, in the model. -/
def RetOk (W0 : Bw) (m : Plcs) (H : Heap) (Q : AV → Heap → Prop) (e : Ending) (w' : World) : Prop :=
  ∃ v H' m' x, Q v H' ∧ e = .returned x ∧ Ext m m' H H' ∧ Rel W0 m' H' w' ∧ VR H'.length m' v x

def CallSim (P : Program) (W0 : Bw) (call : CallK) : Prop :=
  ∀ f as H Q, call f as H Q → (∃ g, P.funcs[f]? = some g ∧ g.name ≠ "runtime.NumGoroutine" ∧ g.body.isSome = true) ∧
    ∀ m w args, Rel W0 m H w → VRL H.length m as args.toList → Calls P f args w (RetOk W0 m H Q)

/-- On whatever ground. -/
def CallAll (P : Program) (B : Base) (call : CallK) : Prop := ∀ W0, BaseOk B W0 → CallSim P W0 call

/-- What code comes to, in the model. -/
def ExitR : AExit → Exit → Prop
  | .normal, .normal => True
  | .exit i, .exit j => i = j
  | .ret, .ret => True
  | _, _ => False

def CodePost (W0 : Bw) (n0 : Nat) (m : Plcs) (Q : KQ) : Exit → Act → World → Prop := fun e a w =>
  ∃ x env H' m', Q x env H' ∧ ExitR x e ∧ EnvR H'.length m' env a ∧ a.defers = [] ∧ (n0 ≤ H'.length ∧ ∀ k, k < n0 → m k = m' k) ∧ Rel W0 m' H' w

theorem EnvR.upd {n : Nat} {m : Plcs} {env : Env} {a : Act} (E : EnvR n m env a) {t : Nat} {v : AV} {x : Value} (hv : VR n m v x) : EnvR n m (env.upd t v) (a.put (some t) x) := by
  have hs : (a.put (some t) x).tmps = a.tmps.setIfInBounds t x := rfl
  refine ⟨by rw [hs, Array.size_setIfInBounds]; exact E.1, fun i u hu => ?_⟩
  rw [hs]
  by_cases h : i = t
  · subst h
    rw [Env.upd_self] at hu
    cases hb : Nat.blt i env.n with
    | false => rw [hb] at hu; cases hu
    | true =>
      rw [hb] at hu
      simp only [cond_true, Option.some.injEq] at hu
      subst hu
      have hlt : i < a.tmps.size := by rw [E.1]; exact Nat.le_of_ble_eq_true hb
      rw [Array.getD_eq_getD_getElem?, Array.getElem?_setIfInBounds_self_of_lt hlt]
      exact hv
  · rw [Env.upd_ne h] at hu
    have := E.2 i u hu
    rw [Array.getD_eq_getD_getElem?] at this ⊢
    rw [Array.getElem?_setIfInBounds_ne (Ne.symm h)]
    exact this
theorem EnvR.put {n : Nat} {m : Plcs} {env : Env} {a : Act} (E : EnvR n m env a) (d : Option Nat) {v : AV} {x : Value} (hv : VR n m v x) :
    EnvR n m (match d with | some t => env.upd t v | none => env) (a.put d x) := by
  cases d with
  | none => exact E
  | some t => exact E.upd hv

theorem resK_eq (env : Env) (d : Option Nat) (v : AV) (H : Heap) (K : Env → Heap → Prop) : resK env d v H K = K (match d with | some t => env.upd t v | none => env) H := by cases d <;> rfl

theorem EnvR.ext {m m' : Plcs} {H H' : Heap} {env : Env} {a : Act} (h : EnvR H.length m env a) (e : Ext m m' H H') : EnvR H'.length m' env a := ⟨h.1, fun t v hv => e.vr (h.2 t v hv)⟩

theorem assoc_map {f : Nat → Option AV} : ∀ {l : List Nat} {i : Nat} {v : AV}, assoc (l.map fun i => (i, (f i).getD .dead)) i = some v → v = (f i).getD .dead
  | [], i, v, h => by simp [assoc] at h
  | k :: r, i, v, h => by
    simp only [List.map_cons, assoc] at h
    by_cases e : i = k
    · subst e; rw [beq_self] at h; simpa using h.symm
    · rw [beq_ne e] at h; exact assoc_map h

theorem EnvR.keep {n : Nat} {m : Plcs} {env : Env} {a : Act} (h : EnvR n m env a) (l : List Nat) : EnvR n m (keepEnv l env) a := by
  refine ⟨h.1, fun t v hv => ?_⟩
  have hv : assoc (vals l env) t = some v := hv
  rw [vals_eq] at hv
  have := assoc_map hv
  cases hf : env.f t with
  | none => rw [hf] at this; simp at this; subst this; simp [VR]
  | some u => rw [hf] at this; simp at this; subst this; exact h.2 t _ hf

theorem assoc_numb {n : Nat} {m : Plcs} : ∀ {l : List AV} {ys : List Value} (k : Nat), VRL n m l ys → ∀ {t : Nat} {v : AV}, assoc (numb k l) t = some v → ∃ x, k ≤ t ∧ ys[t - k]? = some x ∧ VR n m v x
  | [], _, k, _, t, v, h => by simp [numb, assoc] at h
  | a :: l, ys, k, hv, t, v, h => by
    simp only [VRL] at hv
    obtain ⟨y, r, rfl, h1, h2⟩ := hv
    simp only [numb, assoc] at h
    by_cases e : t = k
    · subst e; rw [beq_self] at h; simp at h; subst h; exact ⟨y, Nat.le_refl _, by simp, h1⟩
    · rw [beq_ne e] at h
      obtain ⟨x, g1, g2, g3⟩ := assoc_numb (k + 1) h2 h
      refine ⟨x, by omega, ?_, g3⟩
      have : t - k = (t - (k + 1)) + 1 := by omega
      rw [this]; simpa using g2

section
variable {P : Program} {B : Base} {W0 : Bw} {call : CallK}

/-! ### One step -/
theorem meth_row {name : String} {t : TypeId} {f : FuncId} {mode : Option Nat} (h : (t, f, mode) ∈ methRows P name) :
    ∃ i mt pr, P.info? t = some i ∧ i.methods.find? (·.name == name) = some mt ∧ mt.path.isEmpty = true ∧ mt.func = some (f, pr) ∧
      match mode with
      | none => (∃ e, P.underlying t = some (.pointer e) ∧ pr = true) ∨ (∃ D, P.underlying t = some D ∧ (∀ e, D ≠ .pointer e) ∧ pr = false)
      | some n => ∃ e, P.underlying t = some (.pointer e) ∧ pr = false ∧ ((n ≠ 0 ∧ tyOf P e = some .agg ∧ ∃ b, infoOf P e = some (n, b)) ∨ (n = 0 ∧ ∃ y, tyOf P e = some (.one y))) := by
  unfold methRows at h
  obtain ⟨t', ht', h⟩ := List.mem_filterMap.1 h
  have hlt : t' < P.types.size := by simpa using ht'
  split at h
  · cases h
  · rename_i i hi
    have hinfo : P.info? t' = some i := by simp only [Tables.info?, if_pos hlt]; exact hi
    split at h
    · rename_i mt hm
      split at h
      · rename_i f' pr hp hf
        split at h
        · rename_i e hu; cases h; exact ⟨i, mt, _, hinfo, hm, hp, hf, .inl ⟨e, hu, rfl⟩⟩
        · rename_i e hu
          split at h
          · rename_i n b ht hn
            split at h
            · cases h
            · rename_i hne
              cases h
              exact ⟨i, mt, _, hinfo, hm, hp, hf, e, hu, rfl, .inl ⟨hne, ht, b, hn⟩⟩
          · rename_i y n b ht hn
            split at h
            · cases h
              exact ⟨i, mt, _, hinfo, hm, hp, hf, e, hu, rfl, .inr ⟨rfl, y, ht⟩⟩
            · cases h
          · cases h
        · rename_i D hne hu
          cases h
          exact ⟨i, mt, _, hinfo, hm, hp, hf, .inr ⟨D, hu, fun e he => by subst he; exact hne _ rfl, rfl⟩⟩
        · cases h
      · cases h
    · cases h

theorem run_wrapNil {w : World} (xt : TypeId) (a : Addr) (s t : String) : (Builtin.ssaWrapNilChk_ #[xt] xt #[.pointer (some a), strVal s, strVal t]).run P w = .ok (.pointer (some a)) w := rfl

theorem callee_ok {m : Plcs} {H : Heap} {w : World} {env : Env} {a : Act} (hB : BaseOk B W0) (hcall : CallSim P W0 call) (E : EnvR H.length m env a) (R : Rel W0 m H w) {c : Call} {ty : TypeId} {cal : ACallee} {args : List Opd} {y : Ty} (hc : compCall P ty c = some (.call cal args y))
    {Q : AV → Heap → Prop} (h : opsK env args fun vs => calleeK B env H vs (fun f as => call f as H Q) cal) {o : Oper} (ho : o.op = .call c) :
    ∃ f as xs, call f as H Q ∧ (execOp a.eval o).run P w = .ok (.enter f xs) w ∧ VRL H.length m as xs.toList := by
  obtain ⟨callee, cargs, ts⟩ := c
  have enter : ∀ (f : FuncId) (as : List AV), call f as H Q → ∀ xs : Array Value, (callFunc f xs).run P w = .ok (.enter f xs) w := fun f as hf xs => by
    obtain ⟨⟨g, hg, hn, hb⟩, _⟩ := hcall f as H Q hf
    cases hbo : g.body with
    | none => rw [hbo] at hb; simp at hb
    | some c => simp [callFunc, hg, hn, hbo]
  obtain ⟨dst, op, ty', pos, after, guard⟩ := o
  simp only at ho; subst ho
  simp only [compCall] at hc
  split at hc
  · obtain ⟨_, _, e⟩ := map_some hc; cases e
  · rename_i fo
    split at hc
    · cases hc
    · rename_i args' ha
      split at hc
      · rename_i f
        cases hc
        obtain ⟨vs, hk, hvs⟩ := opds_ok' E ha h
        refine ⟨f, vs, cargs.map a.eval, hk, ?_, hvs⟩
        have := enter f vs hk (cargs.map a.eval)
        simp [execOp, resolve, Act.eval, Deferred.ofValue, invoke]
        simpa [Act.eval] using this
      · rename_i hne
        obtain ⟨x', hx, e⟩ := map_some hc
        cases e
        obtain ⟨vs, hk, hvs⟩ := opds_ok' E ha h
        simp only [calleeK] at hk
        obtain ⟨v, hk2, hv⟩ := opd_ok E hx hk
        split at hk2
        · rename_i f first captured
          simp only [VR] at hv
          obtain ⟨p, q, hv, hp, hq⟩ := hv
          refine ⟨f, _, p ++ cargs.map a.eval ++ q, hk2, ?_, ?_⟩
          · have := enter f _ hk2 (p ++ cargs.map a.eval ++ q)
            simp [execOp, resolve, hv, Deferred.ofValue, invoke]
            simpa using this
          · rw [Array.toList_append, Array.toList_append]
            exact VRL_append (VRL_append hp hvs) hq
        · exact hk2.elim
  · rename_i rcvO nm
    cases hc1 : opds cargs.toList with
    | none => simp [hc1] at hc
    | some args' =>
      cases hc2 : opd rcvO with
      | none => simp [hc1, hc2] at hc
      | some r' =>
        simp only [hc1, hc2] at hc
        cases hc
        obtain ⟨vs, hk, hvs⟩ := opds_ok' E hc1 h
        simp only [calleeK] at hk
        obtain ⟨v, hk2, hv⟩ := opd_ok E hc2 hk
        split at hk2
        · rename_i t u
          have hv' := hv
          simp only [VR] at hv
          obtain ⟨z, hv, hz⟩ := hv
          have recv : ∀ (f : FuncId) (as : List AV) (rcv : Value), call f as H Q → (method (P.types.size + Made.depth) t z nm).run P w = .ok (f, rcv) w →
              (execOp a.eval { dst := dst, op := .call { callee := .invoke rcvO nm, args := cargs, argTypes := ts }, type := ty', pos := pos, after := after, guard := guard }).run P w = .ok (.enter f (#[rcv] ++ cargs.map a.eval)) w := fun f as rcv hf hm => by
            have := enter f _ hf (#[rcv] ++ cargs.map a.eval)
            have e0 : (#[Value.iface t z] ++ cargs.map a.eval)[0]? = some (.iface t z) := by rw [Array.getElem?_append_left (by exact Nat.zero_lt_one)]; rfl
            have e1 : (#[Value.iface t z] ++ cargs.map a.eval).extract 1 (#[Value.iface t z] ++ cargs.map a.eval).size = cargs.map a.eval := by apply Array.ext'; simp [Array.toList_extract, List.extract_eq_take_drop]; rw [List.take_of_length_le (by simp)]
            simp only [execOp, resolve, hv, Sem.run_bind, Sem.run_pure, Result.andThen_ok, invoke, e0, e1, callMethod, run_program, hm]
            exact this
          have mrun : ∀ {f : FuncId} {i : TypeInfo} {mt : Method} {pr : Bool}, P.info? t = some i → i.methods.find? (·.name == nm) = some mt → mt.path.isEmpty = true → mt.func = some (f, pr) → ∀ {rcv : Value},
              (receiverAt t (.val z) pr (some ((nm.splitOn ".").getLastD nm))).run P w = .ok rcv w → (method (P.types.size + Made.depth) t z nm).run P w = .ok (f, rcv) w := fun {f} {i} {mt} {pr} hi hm hp hf {rcv} hr => by
            rw [show P.types.size + Made.depth = (P.types.size + 99) + 1 from rfl]
            have hpl : mt.path.toList = [] := by
              have : mt.path = #[] := by simpa using hp
              rw [this]
            unfold method
            simp only [Sem.run_bind, typeInfo, run_program, Result.andThen_ok, hi, Sem.run_pure, hm, hpl, follow, hf, hp, if_true, hr]
          split at hk2
          · rename_i t0 f hfind
            have hmem := List.mem_of_find?_eq_some hfind
            have ht : t0 = t := by simpa using List.find?_some hfind
            subst ht
            obtain ⟨i, mt, pr, hi, hm, hp, hf, hmode⟩ := meth_row hmem
            refine ⟨f, _, _, hk2, recv f _ z hk2 (mrun hi hm hp hf ?_), ?_⟩
            · rcases hmode with ⟨e, hu, rfl⟩ | ⟨D, hu, hD, rfl⟩
              · simp [receiverAt, run_underlying hu, Place.get]
              · cases D <;> first | exact absurd rfl (hD _) | simp [receiverAt, run_underlying hu, Place.get]
            · simp only [Array.toList_append, VRL]
              exact ⟨z, _, rfl, hz, hvs⟩
          · rename_i t0 f n hfind
            have hmem := List.mem_of_find?_eq_some hfind
            have ht : t0 = t := by simpa using List.find?_some hfind
            subst ht
            obtain ⟨i, mt, pr, hi, hm, hp, hf, e, hu, rfl, hmode⟩ := meth_row hmem
            split at hk2
            · rename_i hn0
              obtain ⟨c, hc1, hk3⟩ := ob_iff.1 hk2
              obtain ⟨o, j, cs, rfl, hcs, hij⟩ := peek_iff.1 hc1
              obtain ⟨_, rfl⟩ := VR_ptr hz
              obtain ⟨_, y, hy, hry⟩ := R.cell hB hcs hij
              rcases hmode with ⟨hne, _⟩ | ⟨_, yy, hyy⟩
              · exact absurd hn0 hne
              refine ⟨f, _, _, hk3, recv f _ y hk3 (mrun hi hm hp hf ?_), ?_⟩
              · simp [receiverAt, run_underlying hu, Place.get, run_wrapNil, asAddr, loadVar, tyOf_one hyy, hy]
              · simp only [Array.toList_append, VRL]
                exact ⟨y, _, rfl, hry, hvs⟩
            · rename_i hn0
              obtain ⟨c, hc1, hk3⟩ := ob_iff.1 hk2
              unfold peekN at hc1
              split at hc1
              · rename_i o j
                obtain ⟨_, rfl⟩ := VR_ptr hz
                obtain ⟨h0, xs, h1, h2, h3⟩ := R.cellsAt hB hc1
                rcases hmode with ⟨_, hagg, b, hinf⟩ | ⟨h00, _⟩
                case inr => exact absurd h00 hn0
                obtain ⟨inf, g1, g2, _⟩ := infoOf_some hinf
                have hload := run_loadCells_list (P := P) w (adr m o j) xs h3
                refine ⟨f, _, _, hk3, recv f _ (.agg xs.toArray) hk3 (mrun hi hm hp hf ?_), ?_⟩
                · simp only [receiverAt, Sem.run_bind, run_underlying hu, Result.andThen_ok, Place.get, Sem.run_pure, run_wrapNil, asAddr, loadVar, tyOf_agg hagg, if_true, run_size g1, g2, ← h1, hload]
                · simp only [Array.toList_append, VRL]
                  exact ⟨_, _, rfl, by simp only [VR]; exact ⟨h0, _, rfl, by simpa using h2⟩, hvs⟩
              · cases hc1
          · exact hk2.elim
        · exact hk2.elim

end

end Go.Am
